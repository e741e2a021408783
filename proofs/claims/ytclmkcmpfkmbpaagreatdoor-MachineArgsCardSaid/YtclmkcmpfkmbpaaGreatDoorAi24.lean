/-
  heap.Alloc's loop over the blocks, of a row of symbolic length that is still nothing but noughts: what it comes to.
-/
import Derived.Test.YtclmkcmpfkmbpaaGreatDoorAi23
set_option maxRecDepth 100000
set_option linter.unusedSectionVars false
namespace Go.Ai
open Go Go.Proofs

section puts
def puts (T : PM Value) (l : List (Nat × Value)) : PM Value := l.foldl (fun T p => put T (some p.1) p.2) T
def find : List (Nat × Value) → Nat → Option Value
  | [], _ => none
  | p :: l, i => match find l i with
    | some v => some v
    | none => if p.1 = i then some p.2 else none
theorem tval_put0 (T : PM Value) (d : Nat) (v : Value) (s : Nat) : tval (put T (some d) v) s = if d = s then v else tval T s := by
  show ((T.set d v).get s).getD undef = _
  rw [PM.get_set]
  by_cases h : d = s
  · subst h; simp
  · have h' : ¬ s = d := fun e => h e.symm
    simp [h, h', tval]
theorem tval_puts : ∀ (l : List (Nat × Value)) (T : PM Value) (i : Nat), tval (puts T l) i = (find l i).getD (tval T i)
  | [], T, i => rfl
  | p :: l, T, i => by
    show tval (puts (put T (some p.1) p.2) l) i = _
    rw [tval_puts l, find, tval_put0]
    cases find l i with
    | some v => rfl
    | none => by_cases h : p.1 = i <;> simp [h]
theorem find_isSome : ∀ (l : List (Nat × Value)) (i : Nat), (find l i).isSome = true ↔ i ∈ l.map Prod.fst
  | [], i => by simp [find]
  | p :: l, i => by
    rw [List.map_cons, List.mem_cons, ← find_isSome l i, find]
    cases find l i with
    | some v => simp
    | none =>
      by_cases h : p.1 = i
      · simp [h]
      · have : ¬ i = p.1 := fun e => h e.symm
        simp [h, this]
theorem puts_append (T : PM Value) (l m : List (Nat × Value)) : puts T (l ++ m) = puts (puts T l) m := List.foldl_append
def Eqv (T T' : PM Value) : Prop := ∀ i, tval T i = tval T' i
theorem Eqv.trans {a b c : PM Value} (h : Eqv a b) (k : Eqv b c) : Eqv a c := fun i => (h i).trans (k i)
theorem Eqv.puts {T T' : PM Value} (h : Eqv T T') (l : List (Nat × Value)) : Eqv (puts T l) (puts T' l) := fun i => by rw [tval_puts, tval_puts, h i]
theorem puts_over {T : PM Value} {l m : List (Nat × Value)} (h : l.map Prod.fst = m.map Prod.fst) : Eqv (puts (puts T l) m) (puts T m) := fun i => by
  rw [tval_puts, tval_puts, tval_puts]
  cases hm : find m i with
  | some v => rfl
  | none =>
    cases hl : find l i with
    | none => rfl
    | some v =>
      have h1 := (find_isSome l i).1 (by rw [hl]; rfl)
      rw [h, ← find_isSome m i, hm] at h1
      cases h1
end puts

section
variable [Sig] {γ : Gm}
theorem Eqv.TR {T T' : PM Value} {tmps : Array Value} (h : Eqv T T') (k : TR γ T tmps) : TR γ T' tmps := fun i => by
  have := k i
  rw [h i] at this
  exact this
/-- What is known of slots may be forgotten. -/
inductive Weak : List (Nat × Value) → List (Nat × Value) → Prop where
  | nil : Weak [] []
  | cons {i : Nat} {v v' : Value} {l m : List (Nat × Value)} (h : ∀ γ c, VR γ v c → VR γ v' c) (k : Weak l m) : Weak ((i, v) :: l) ((i, v') :: m)
theorem Weak.find {l m : List (Nat × Value)} (h : Weak l m) (i : Nat) : (Ai.find l i = none ∧ Ai.find m i = none) ∨ ∃ v v', Ai.find l i = some v ∧ Ai.find m i = some v' ∧ ∀ γ c, VR γ v c → VR γ v' c := by
  induction h with
  | nil => exact .inl ⟨rfl, rfl⟩
  | @cons j v v' l m h k ih =>
    simp only [Ai.find]
    rcases ih with ⟨h1, h2⟩ | ⟨u, u', h1, h2, h3⟩
    · rw [h1, h2]
      by_cases e : j = i
      · exact .inr ⟨v, v', by simp [e], by simp [e], h⟩
      · exact .inl ⟨by simp [e], by simp [e]⟩
    · exact .inr ⟨u, u', by rw [h1], by rw [h2], h3⟩
theorem Weak.TR {T : PM Value} {l m : List (Nat × Value)} {tmps : Array Value} (h : Weak l m) (k : TR γ (puts T l) tmps) : TR γ (puts T m) tmps := fun i => by
  have := k i
  rw [tval_puts] at this ⊢
  rcases h.find i with ⟨h1, h2⟩ | ⟨u, u', h1, h2, h3⟩
  · rw [h1] at this; rw [h2]; exact this
  · rw [h1] at this; rw [h2]; exact h3 _ _ this
end

/- exec, opened -/
section
variable [Know] {F : PM IF} {n : Nat} {T : PM Value} {M : Mem}
theorem ex_seq {a b : IC} : exec F (n + 1) (.seq a b) T M = bindR (exec F n a T M) fun T M => exec F n b T M := by
  have : exec F (n + 1) (.seq a b) T M = (match exec F n a T M with
    | .nrm T M => exec F n b T M
    | r => r) := by rw [exec] <;> rfl
  rw [this]; unfold bindR; cases exec F n a T M <;> rfl
theorem ex_cond {c : Opd} {a b : IC} {t : Bool} (h : c.ev T = .bool t) : exec F (n + 1) (.cond c a b) T M = exec F n (bif t then a else b) T M := by
  rw [exec, h]; cases t <;> rfl
theorem ex_ops {l : List Itm} : exec F (n + 1) (.ops l) T M = runOps (callW (exec F n) F) l T M := by rw [exec] <;> rfl
theorem ex_draw {l : List DO} : exec F (n + 1) (.draw l) T M = runDraw (callW (exec F n) F) l 0 [] T M := by rw [exec] <;> rfl
theorem ex_skip : exec F (n + 1) .skip T M = .nrm T M := by rw [exec] <;> rfl
theorem ex_exit {i : Nat} : exec F (n + 1) (.exit i) T M = .ext i T M := by rw [exec] <;> rfl
theorem ex_block {id : Nat} {b : IC} : exec F (n + 1) (.block id b) T M = (match exec F n b T M with
      | .ext k T M => bif Nat.beq k id then .nrm T M else .ext k T M
      | r => r) := by rw [exec] <;> rfl
theorem ex_loop {b : IC} : exec F (n + 1) (.loop b) T M = bindR (exec F n b T M) fun T M => exec F n (.loop b) T M := by
  have : exec F (n + 1) (.loop b) T M = (match exec F n b T M with
    | .nrm T M => exec F n (.loop b) T M
    | r => r) := by rw [exec] <;> rfl
  rw [this]; unfold bindR; cases exec F n b T M <;> rfl
end

/- The loop -/
def hl97 (rh rk s : Nat) (b : Nat) (t : Bool) : List (Nat × Value) :=
  [(39, .int .i64 b), (40, .pointer (some ⟨rh, 0, none⟩)), (41, .pointer (some ⟨rh, 0, none⟩)), (42, .pointer (some ⟨rh, 1, none⟩)), (43, .complex .f32 rk s), (44, .float .f32 s), (45, .bool t)]
def ml97 (rh rk s : Nat) (b : Nat) : List (Nat × Value) :=
  [(48, .pointer (some ⟨rh, 0, none⟩)), (49, .pointer (some ⟨rh, 0, none⟩)), (50, .pointer (some ⟨rh, 1, none⟩)), (51, .complex .f32 rk s), (52, .int .i64 b), (53, .pointer (some ⟨rk, b, none⟩)), (54, .int .i64 0), (55, .int .i64 2), (56, .bool false), (57, .bool false),
   (58, undef), (59, undef), (60, undef), (61, undef), (62, undef), (63, undef), (64, undef), (65, undef), (66, undef), (67, undef), (68, .bool false)]
def ol97 (b : Nat) : List (Nat × Value) := [(46, .int .i64 b), (47, .int .i64 ((b + 1 : Nat) : Int)), (7, .int .i64 ((b + 1 : Nat) : Int))]
/-- What a round writes. -/
def rl97 (rh rk s b : Nat) : List (Nat × Value) := hl97 rh rk s b true ++ (ml97 rh rk s b ++ ol97 b)
def ops3 : List Itm := [⟨.mov (.t 7), (some 46), none⟩, ⟨.bin .add (.t 46) (.c (.int .i64 (.ofNat 1))), (some 47), none⟩, ⟨.mov (.t 47), (some 7), none⟩]
def then97 : IC := match hd (tl lp97) with
  | .block _ (.seq _ (.cond _ a _)) => a
  | _ => .bad
theorem lp97_is : lp97 = .seq (.seq (.ops ops97) (.cond (.t 45) .skip (.exit 1))) (.seq (.block 2 (.seq (.draw draw97) (.cond (.t 68) then97 .skip))) (.ops ops3)) := by kernel_rfl

theorem ev_puts (T : PM Value) (l : List (Nat × Value)) (i : Nat) : (Opd.t i).ev (puts T l) = (find l i).getD ((Opd.t i).ev T) := tval_puts l T i

/-- What the loop wants. -/
structure At97 [Know] (M : Mem) (rh rk s : Nat) (A B : Arr) : Prop where
  hA : arrOf M rh = some A
  h1 : A.cells.get 1 = some (.complex .f32 rk s)
  hB : arrOf M rk = some B
  h2 : ∀ b, Nat.blt b (Know.lo s) = true → B.cells.get b = some (.int .i64 0)

structure In97 (T : PM Value) (rh b : Nat) : Prop where
  h0 : (Opd.t 0).ev T = .pointer (some ⟨rh, 0, none⟩)
  h6 : (Opd.t 6).ev T = .int .i64 2
  h7 : (Opd.t 7).ev T = .int .i64 b

section
variable [Sig] [Know] [KOk] {F : PM IF} {T : PM Value} {M : Mem} {rh rk s : Nat} {A B : Arr}
theorem In97.next {b : Nat} (h : In97 T rh b) : In97 (puts T (rl97 rh rk s b)) rh (b + 1) :=
  ⟨(ev_puts _ _ _).trans h.h0, (ev_puts _ _ _).trans h.h6, ev_puts _ _ _⟩
theorem ops3_run (call : Nat → List Value → Mem → RC) {b : Nat} (hb : b < 9000000000000000000) (h7 : (Opd.t 7).ev T = .int .i64 b) : runOps call ops3 T M = .nrm (puts T (ol97 b)) M := by
  have hf : fitv .i64 ((b : Int) + 1) = some (.int .i64 ((b + 1 : Nat) : Int)) := by
    have : fitI .i64 (Int.ofNat (b + 1)) = true := by simp only [fitI, blt_spec, decide_eq_true_iff]; omega
    show fitv .i64 (Int.ofNat (b + 1)) = _
    unfold fitv
    rw [this]; rfl
  have hbin : Ai.bin .add (.int .i64 (b : Int)) (.int .i64 (.ofNat 1)) = some (.int .i64 ((b + 1 : Nat) : Int)) := hf
  have e1 : ∀ T1, step T1 M (.bin .add (.t 46) (.c (.int .i64 (.ofNat 1)))) = match Ai.bin .add ((Opd.t 46).ev T1) (.int .i64 (.ofNat 1)) with
      | some v => some (v, M)
      | none => match symCmp .add ((Opd.t 46).ev T1) (.int .i64 (.ofNat 1)) with
        | some b => some (b, M)
        | none => none := fun _ => rfl
  unfold ops3 runOps
  simp only [wanted, cond_true, step, h7]
  unfold runOps
  simp only [wanted, cond_true]
  rw [e1, show (Opd.t 46).ev (put T (some 46) (.int .i64 (b : Int))) = .int .i64 b by rw [ev_put]; rfl, hbin]
  unfold runOps
  simp only [wanted, cond_true, step]
  rw [show (Opd.t 47).ev (put (put T (some 46) (.int .i64 (b : Int))) (some 47) (.int .i64 ((b + 1 : Nat) : Int))) = .int .i64 ((b + 1 : Nat) : Int) by rw [ev_put]; rfl]
  rfl

theorem mid97_puts (T : PM Value) (b : Nat) : mid97 T rh rk s b 2 = puts T (ml97 rh rk s b) := by
  simp only [mid97, puts, ml97, List.foldl, Int.toNat_natCast]
theorem round97 (hat : At97 M rh rk s A B) {b m : Nat} (hi : In97 T rh b) (hlt : Nat.blt b (Know.lo s) = true) (hb : b < 9000000000000000000) (hc : Know.cmp s .lss true b = some (.bool true)) :
    exec F (m + 6) lp97 T M = .nrm (puts T (rl97 rh rk s b)) M := by
  have e45 : (Opd.t 45).ev (puts T (hl97 rh rk s b true)) = .bool true := by rw [ev_puts]; rfl
  have e68 : (Opd.t 68).ev (puts (puts T (hl97 rh rk s b true)) (ml97 rh rk s b)) = .bool false := by rw [ev_puts]; rfl
  have g0 : (Opd.t 0).ev (puts T (hl97 rh rk s b true)) = .pointer (some ⟨rh, 0, none⟩) := by rw [ev_puts]; exact hi.h0
  have g6 : (Opd.t 6).ev (puts T (hl97 rh rk s b true)) = .int .i64 2 := by rw [ev_puts]; exact hi.h6
  have g7 : (Opd.t 7).ev (puts T (hl97 rh rk s b true)) = .int .i64 b := by rw [ev_puts]; exact hi.h7
  have q7 : (Opd.t 7).ev (puts (puts T (hl97 rh rk s b true)) (ml97 rh rk s b)) = .int .i64 b := by rw [ev_puts]; exact g7
  rw [lp97_is, ex_seq, ex_seq, ex_ops, head97_run _ T M rh rk s b true A hi.h0 hat.hA hat.h1 hi.h7 hc]
  rw [show head97 T rh rk s b true = puts T (hl97 rh rk s b true) from rfl]
  simp only [bindR]
  rw [ex_cond e45, cond_true, ex_skip]
  simp only
  rw [ex_seq, ex_block, ex_seq, ex_draw, draw97_run _ (puts T (hl97 rh rk s b true)) M rh rk s b A B g0 hat.hA hat.h1 hat.hB (hat.h2 b hlt) hlt g7 g6]
  rw [mid97_puts]
  simp only [bindR]
  rw [ex_cond e68, cond_false, ex_skip]
  simp only
  rw [ex_ops, ops3_run _ hb q7]
  rw [rl97, puts_append, puts_append]

def endT97 (rh rk s : Nat) : Nat → Nat → PM Value → PM Value
  | 0, b, T => puts T (hl97 rh rk s b false)
  | k + 1, b, T => endT97 rh rk s k (b + 1) (puts T (rl97 rh rk s b))
theorem loop97_run (hat : At97 M rh rk s A B) {n : Nat} (hn : Know.lo s = n) (hnb : n < 9000000000000000000) (hcmp : ∀ b : Nat, Know.cmp s .lss true b = some (.bool (Nat.blt b n))) :
    ∀ (k b : Nat) (T : PM Value), b + k = n → In97 T rh b → ∀ m, exec F (k + m + 7) (.loop lp97) T M = .ext 1 (endT97 rh rk s k b T) M
  | 0, b, T, hk, hi, m => by
    have e45 : (Opd.t 45).ev (puts T (hl97 rh rk s b false)) = .bool false := by rw [ev_puts]; rfl
    have hc := hcmp b
    rw [show Nat.blt b n = false by rw [blt_spec]; simp; omega] at hc
    rw [ex_loop, lp97_is, ex_seq, ex_seq, ex_ops, head97_run _ T M rh rk s b false A hi.h0 hat.hA hat.h1 hi.h7 hc]
    rw [show head97 T rh rk s b false = puts T (hl97 rh rk s b false) from rfl]
    simp only [bindR]
    rw [ex_cond e45, cond_false, ex_exit]
    rfl
  | k + 1, b, T, hk, hi, m => by
    have hlt : Nat.blt b n = true := by rw [blt_spec]; simp; omega
    have hc := hcmp b
    rw [hlt] at hc
    have hr : exec F (k + m + 7) lp97 T M = .nrm (puts T (rl97 rh rk s b)) M := by
      rw [show k + m + 7 = (k + m + 1) + 6 by omega]
      exact round97 hat hi (by rw [hn]; exact hlt) (by omega) hc
    rw [show k + 1 + m + 7 = (k + m + 7) + 1 by omega, ex_loop, hr]
    simp only [bindR, endT97]
    exact loop97_run hat hn hnb hcmp k (b + 1) (puts T (rl97 rh rk s b)) (by omega) hi.next m
theorem keys97 (b : Nat) : (rl97 rh rk s b).map Prod.fst = [39, 40, 41, 42, 43, 44, 45, 48, 49, 50, 51, 52, 53, 54, 55, 56, 57, 58, 59, 60, 61, 62, 63, 64, 65, 66, 67, 68, 46, 47, 7] := rfl
theorem endT97_eqv : ∀ (k b : Nat) (T : PM Value), Eqv (endT97 rh rk s (k + 1) b T) (puts T (rl97 rh rk s (b + k) ++ hl97 rh rk s (b + k + 1) false))
  | 0, b, T => by
    have h : endT97 rh rk s (0 + 1) b T = puts (puts T (rl97 rh rk s b)) (hl97 rh rk s (b + 1) false) := by rw [endT97, endT97]
    rw [h, puts_append, Nat.add_zero]
    exact fun _ => Eq.refl _
  | k + 1, b, T => by
    have ih := endT97_eqv k (b + 1) (puts T (rl97 rh rk s b))
    rw [show b + 1 + k = b + (k + 1) by omega] at ih
    refine Eqv.trans (b := puts (puts T (rl97 rh rk s b)) (rl97 rh rk s (b + (k + 1)) ++ hl97 rh rk s (b + (k + 1) + 1) false)) ih ?_
    rw [puts_append, puts_append]
    exact (puts_over ((keys97 b).trans (keys97 (b + (k + 1))).symm)).puts _
end

/- What is known in the loop: how long the row is. -/
section
variable [Sig]
def cmpL97 (s n i : Nat) (op : BinOp) (sw : Bool) (c : Int) : Option Value :=
  bif Nat.beq i s then (match op, sw with
    | .lss, true => some (.bool (ilt c n))
    | _, _ => none) else none
def loL97 (s n i : Nat) : Nat := bif Nat.beq i s then n else 0
@[reducible] def knowL (s n : Nat) : Know where
  cmp := cmpL97 s n
  lo := loL97 s n
  hi := fun i => (Sig.val i).toNat
  ov := fun _ => none
theorem knowL_ok {s n : Nat} (h : Sig.val s = (n : Int)) : @KOk _ (knowL s n) := by
  refine @KOk.mk _ (knowL s n) ?_ ?_ ?_ ?_
  · intro i op c b hb
    have hb : cmpL97 s n i op false c = some b := hb
    unfold cmpL97 at hb
    cases e : Nat.beq i s <;> rw [e] at hb <;> cases op <;> cases hb
  · intro i op c b hb
    have hb : cmpL97 s n i op true c = some b := hb
    unfold cmpL97 at hb
    obtain ⟨h1, hb⟩ := cond_opt hb
    split at hb
    · cases hb
      have := Nat.eq_of_beq_eq_true h1
      subst this
      exact ⟨.bool (ilt c n), by rw [h]; rfl, fun γ => .atom rfl⟩
    · cases hb
  · intro i hi
    have hi : 0 < loL97 s n i := hi
    show ((loL97 s n i : Nat) : Int) ≤ _
    unfold loL97 at hi ⊢
    cases e : Nat.beq i s with
    | false => rw [e] at hi; simp at hi
    | true =>
      have := Nat.eq_of_beq_eq_true e
      subst this
      rw [h]; exact Int.le_refl _
  · intro i
    show _ ≤ (((Sig.val i).toNat : Nat) : Int)
    omega

/-- What the slots are known to be behind the loop. -/
def wl97 (rh rk s : Nat) : List (Nat × Value) :=
  [(39, .chan none), (40, .pointer (some ⟨rh, 0, none⟩)), (41, .pointer (some ⟨rh, 0, none⟩)), (42, .pointer (some ⟨rh, 1, none⟩)), (43, .complex .f32 rk s), (44, .float .f32 s), (45, .bool true),
   (48, .pointer (some ⟨rh, 0, none⟩)), (49, .pointer (some ⟨rh, 0, none⟩)), (50, .pointer (some ⟨rh, 1, none⟩)), (51, .complex .f32 rk s), (52, .chan none), (53, .chan none), (54, .int .i64 0), (55, .int .i64 2), (56, .bool false), (57, .bool false),
   (58, undef), (59, undef), (60, undef), (61, undef), (62, undef), (63, undef), (64, undef), (65, undef), (66, undef), (67, undef), (68, .bool false),
   (46, .chan none), (47, .chan none), (7, .float .f32 s),
   (39, .float .f32 s), (40, .pointer (some ⟨rh, 0, none⟩)), (41, .pointer (some ⟨rh, 0, none⟩)), (42, .pointer (some ⟨rh, 1, none⟩)), (43, .complex .f32 rk s), (44, .float .f32 s), (45, .bool false)]
theorem weak97 {rh rk s n b : Nat} (h : Sig.val s = (n : Int)) (hb : b + 1 = n) : Weak (rl97 rh rk s b ++ hl97 rh rk s (b + 1) false) (wl97 rh rk s) := by
  have id : ∀ {v : Value}, ∀ γ c, VR γ v c → VR γ v c := fun _ _ h => h
  have junkI : ∀ {k : Int}, ∀ γ c, VR γ (.int .i64 k) c → VR γ (.chan none) c := fun γ c h => by
    have := h.int
    subst this
    exact .top rfl
  have junkP : ∀ {a : Addr}, ∀ γ c, VR γ (.pointer (some a)) c → VR γ (.chan none) c := fun γ c h => by
    obtain ⟨b, rfl⟩ := h.ptrSome
    exact .top rfl
  have sym : ∀ γ c, VR γ (.int .i64 ((b + 1 : Nat) : Int)) c → VR γ (.float .f32 s) c := fun γ c hc => by
    have := hc.int
    subst this
    rw [hb, ← h]
    exact .symI
  simp only [rl97, hl97, ml97, ol97, wl97, List.cons_append, List.nil_append]
  exact .cons junkI (.cons id (.cons id (.cons id (.cons id (.cons id (.cons id (.cons id (.cons id (.cons id (.cons id (.cons junkI (.cons junkP (.cons id (.cons id (.cons id (.cons id (.cons id (.cons id (.cons id (.cons id (.cons id (.cons id (.cons id (.cons id (.cons id (.cons id (.cons id
    (.cons junkI (.cons junkI (.cons sym (.cons sym (.cons id (.cons id (.cons id (.cons id (.cons id (.cons id .nil)))))))))))))))))))))))))))))))))))))
end

/-- Whether the loop can be told: its row is still nothing but noughts. -/
def at97 [Know] (T : PM Value) (M : Mem) : Option (Nat × Nat × Nat) :=
  match tval T 0 with
  | .pointer (some ⟨rh, 0, none⟩) => match arrOf M rh with
    | some A => match A.cells.get 1 with
      | some (.complex .f32 rk s) => match M.h.get rk, M.h.get rh with
        | some (.zer s' z), some (.arr _) => bif Nat.beq s s' && veq z (.int .i64 (.ofNat 0)) && veq (tval T 6) (.int .i64 (.ofNat 2)) && veq (tval T 7) (.int .i64 (.ofNat 0)) && Nat.blt 0 (Know.lo s) && Nat.ble (Know.hi s) 1000000 then some (rh, rk, s) else none
        | _, _ => none
      | _ => none
    | none => none
  | _ => none
/-- The loop: told, or run. -/
def loop97 [Know] (F : PM IF) (N : Nat) (T : PM Value) (M : Mem) : R :=
  match at97 T M with
  | some (rh, rk, s) => .nrm (puts T (wl97 rh rk s)) M
  | none => exec F N (.block 1 (.loop lp97)) T M
end Go.Ai
