/-
  heap.Alloc's loop over the blocks: its parts.
-/
import Derived.Test.YtclmkcmpfkmbpaaGreatDoorAi21
import Derived.KernelRfl
set_option linter.unusedSectionVars false
set_option maxRecDepth 100000
namespace Go.Ai
open Go Go.Proofs

variable [Sig] [Know] [KOk]

/-- A sequence's head and rest. -/
def hd : IC → IC
  | .seq a _ => a
  | _ => .bad
def tl : IC → IC
  | .seq _ b => b
  | _ => .bad
def inB : IC → IC
  | .block _ b => b
  | _ => .bad
def inL : IC → IC
  | .loop b => b
  | _ => .bad
def chd : Code → Code
  | .seq a _ => a
  | _ => .skip
def ctl : Code → Code
  | .seq _ b => b
  | _ => .skip

theorem compC_seq {P : Program} {nt k : Nat} {x y : Code} {i : IC} (h : compC P nt (k + 1) (.seq x y) = some i) : ∃ a b, i = .seq a b ∧ compC P nt k x = some a ∧ compC P nt k y = some b := by
  simp only [compC] at h
  split at h
  · rename_i a b ha hb
    cases h
    exact ⟨a, b, rfl, ha, hb⟩
  · cases h
theorem compC_block {P : Program} {nt k id : Nat} {x : Code} {i : IC} (h : compC P nt (k + 1) (.block id x) = some i) : ∃ a, i = .block id a ∧ compC P nt k x = some a := by
  simp only [compC] at h
  obtain ⟨a, ha, rfl⟩ := map_some h
  exact ⟨a, rfl, ha⟩
theorem compC_loop {P : Program} {nt k : Nat} {x : Code} {i : IC} (h : compC P nt (k + 1) (.loop x) = some i) : ∃ a, i = .loop a ∧ compC P nt k x = some a := by
  simp only [compC] at h
  obtain ⟨a, ha, rfl⟩ := map_some h
  exact ⟨a, rfl, ha⟩

/-- What stands behind a normal end. -/
def bindR (r : R) (k : PM Value → Mem → R) : R :=
  match r with
  | .nrm T M => k T M
  | r => r
def finish (fn : IF) (r : R) : RC :=
  match r with
  | .nrm T M' => leave fn T M'
  | .ret T M' => leave fn T M'
  | .pan v M' => .pan v M'
  | _ => .bad

/-- The loop's body. -/
def lp97 : IC := inL (inB (tl (hd (tl (tl (tl ir97.body))))))
theorem lp97_cond : hd (tl (hd lp97)) = .bad ∨ True := .inr trivial
theorem body97 : ir97.body = .seq (hd ir97.body) (.seq (hd (tl ir97.body)) (.seq (hd (tl (tl ir97.body))) (.seq (.seq (hd (hd (tl (tl (tl ir97.body))))) (.block 1 (.loop lp97))) (tl (tl (tl (tl ir97.body))))))) := by kernel_rfl

theorem ev_put (T : PM Value) (d : Nat) (v : Value) (s : Nat) : (Opd.t s).ev (put T (some d) v) = if d = s then v else (Opd.t s).ev T := by
  show tval _ s = _
  rw [tval_put]
  simp only [Option.some.injEq]
  rfl
def ops97 : List Itm := [⟨.mov (.t 7), some 39, none⟩, ⟨.mov (.t 0), some 40, none⟩, ⟨.nilck (.t 40), some 41, none⟩, ⟨.fld 1 (.t 41), some 42, none⟩, ⟨.load (.t 42), some 43, none⟩, ⟨.len false (.t 43), some 44, none⟩, ⟨.bin .lss (.t 39) (.t 44), some 45, none⟩]
/-- What the head of a round comes to. -/
def head97 (T : PM Value) (rh rk s : Nat) (b : Int) (t : Bool) : PM Value :=
  put (put (put (put (put (put (put T (some 39) (.int .i64 b)) (some 40) (.pointer (some ⟨rh, 0, none⟩))) (some 41) (.pointer (some ⟨rh, 0, none⟩))) (some 42) (.pointer (some ⟨rh, 1, none⟩))) (some 43) (.complex .f32 rk s)) (some 44) (.float .f32 s)) (some 45) (.bool t)
theorem head97_run (call : Nat → List Value → Mem → RC) (T : PM Value) (M : Mem) (rh rk s : Nat) (b : Int) (t : Bool) (A : Arr) (h0 : (Opd.t 0).ev T = .pointer (some ⟨rh, 0, none⟩)) (hA : arrOf M rh = some A) (h1 : A.cells.get 1 = some (.complex .f32 rk s))
    (h7 : (Opd.t 7).ev T = .int .i64 b) (hc : Know.cmp s .lss true b = some (.bool t)) : runOps call ops97 T M = .nrm (head97 T rh rk s b t) M := by
  simp [ops97, head97, runOps, wanted, step, ev_put, h0, h7, hA, h1, hc, Ai.bin, symCmp]
theorem ops97_is : hd (hd lp97) = .ops ops97 := by kernel_rfl

def draw97 : List DO := [⟨⟨.mov (.t 0), (some 48), none⟩, 0, 0⟩, ⟨⟨.nilck (.t 48), (some 49), none⟩, 0, 0⟩, ⟨⟨.fld 1 (.t 49), (some 50), none⟩, 0, 0⟩, ⟨⟨.load (.t 50), (some 51), none⟩, 1, 0⟩, ⟨⟨.mov (.t 7), (some 52), none⟩, 0, 0⟩, ⟨⟨.idxS 1 (.t 51) (.t 52), (some 53), none⟩, 0, 0⟩, ⟨⟨.load (.t 53), (some 54), none⟩, 1, 0⟩, ⟨⟨.mov (.t 6), (some 55), none⟩, 0, 0⟩, ⟨⟨.bin .eql (.t 54) (.t 55), (some 56), none⟩, 0, 0⟩, ⟨⟨.mov (.t 56), (some 57), none⟩, 0, 0⟩, ⟨⟨.mov (.t 0), (some 58), (some (57, true))⟩, 0, 0⟩, ⟨⟨.nilck (.t 58), (some 59), (some (57, true))⟩, 0, 0⟩, ⟨⟨.fld 2 (.t 59), (some 60), (some (57, true))⟩, 0, 0⟩, ⟨⟨.load (.t 60), (some 61), (some (57, true))⟩, 1, 0⟩, ⟨⟨.mov (.t 7), (some 62), (some (57, true))⟩, 0, 0⟩, ⟨⟨.idxS 1 (.t 61) (.t 62), (some 63), (some (57, true))⟩, 0, 0⟩, ⟨⟨.load (.t 63), (some 64), (some (57, true))⟩, 1, 0⟩, ⟨⟨.mov (.t 6), (some 65), (some (57, true))⟩, 0, 0⟩, ⟨⟨.bin .quo (.c (.int .i64 (.ofNat 32))) (.t 65), (some 66), (some (57, true))⟩, 0, 0⟩, ⟨⟨.bin .lss (.t 64) (.t 66), (some 67), (some (57, true))⟩, 0, 0⟩, ⟨⟨.pick (.t 57) (.t 67) (.c (.bool false)), (some 68), none⟩, 0, 0⟩]
theorem draw97_is : hd (inB (hd (tl lp97))) = .draw draw97 := by kernel_rfl

theorem rd_step {call : Nat → List Value → Mem → RC} {d : DO} {l : List DO} {e : Nat} {ls : List (Nat × I × PM Value × Value)} {T : PM Value} {M M' : Mem} {v : Value} (hc : Nat.beq d.cls 3 = false) (hw : wanted T d.io.g = true)
    (hs : step T M d.io.i = some (v, M')) : runDraw call (d :: l) e ls T M = runDraw call l e (bif Nat.beq d.cls 1 then (d.la, d.io.i, T, v) :: ls else ls) (put T d.io.dst v) M' := by
  rw [runDraw_cons _ _ _ _ _ _ _ hc, hw, hs]; rfl
theorem rd_skip {call : Nat → List Value → Mem → RC} {d : DO} {l : List DO} {e : Nat} {ls : List (Nat × I × PM Value × Value)} {T : PM Value} {M : Mem} (hc : Nat.beq d.cls 3 = false) (hw : wanted T d.io.g = false) :
    runDraw call (d :: l) e ls T M = runDraw call l e ls (put T d.io.dst undef) M := by
  rw [runDraw_cons _ _ _ _ _ _ _ hc, hw]; rfl
theorem still_all {M : Mem} {e : Nat} : ∀ {ls : List (Nat × I × PM Value × Value)}, (∀ x ∈ ls, (∃ M2, step x.2.2.1 M x.2.1 = some (x.2.2.2, M2)) ∧ veq x.2.2.2 x.2.2.2 = true) → still M e ls = true
  | [], _ => rfl
  | (la, i, T, v) :: ls, h => by
    obtain ⟨⟨M2, h1⟩, h2⟩ := h _ List.mem_cons_self
    have ih := still_all (M := M) (e := e) (ls := ls) (fun x hx => h x (List.mem_cons_of_mem _ hx))
    unfold still
    simp only at h1 h2
    rw [h1]
    simp only [h2, cond_true, ih]
    cases Nat.ble e la <;> rfl
end Go.Ai
