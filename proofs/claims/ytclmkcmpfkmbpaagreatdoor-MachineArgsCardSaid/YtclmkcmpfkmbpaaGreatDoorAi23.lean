import Derived.Test.YtclmkcmpfkmbpaaGreatDoorAi22
set_option maxRecDepth 100000
set_option linter.unusedSectionVars false
namespace Go.Ai
open Go Go.Proofs
variable [Sig] [Know] [KOk]
theorem rd0 {call : Nat → List Value → Mem → RC} {d : DO} {l : List DO} {e : Nat} {ls : List (Nat × I × PM Value × Value)} {T : PM Value} {M M' : Mem} (v : Value) (hc : d.cls = 0) (hw : wanted T d.io.g = true)
    (hs : step T M d.io.i = some (v, M')) : runDraw call (d :: l) e ls T M = runDraw call l e ls (put T d.io.dst v) M' := by
  rw [rd_step (by rw [hc]; rfl) hw hs, hc]; rfl
theorem rd1 {call : Nat → List Value → Mem → RC} {d : DO} {l : List DO} {e : Nat} {ls : List (Nat × I × PM Value × Value)} {T : PM Value} {M M' : Mem} (v : Value) (hc : d.cls = 1) (hw : wanted T d.io.g = true)
    (hs : step T M d.io.i = some (v, M')) : runDraw call (d :: l) e ls T M = runDraw call l e ((d.la, d.io.i, T, v) :: ls) (put T d.io.dst v) M' := by
  rw [rd_step (by rw [hc]; rfl) hw hs, hc]; rfl
/-- What the region of a round comes to. -/
def mid97 (T : PM Value) (rh rk s : Nat) (b c : Int) : PM Value :=
  put (put (put (put (put (put (put (put (put (put (put (put (put (put (put (put (put (put (put (put (put T
    (some 48) (.pointer (some ⟨rh, 0, none⟩))) (some 49) (.pointer (some ⟨rh, 0, none⟩))) (some 50) (.pointer (some ⟨rh, 1, none⟩))) (some 51) (.complex .f32 rk s)) (some 52) (.int .i64 b)) (some 53) (.pointer (some ⟨rk, b.toNat, none⟩))) (some 54) (.int .i64 0)) (some 55) (.int .i64 c)) (some 56) (.bool false)) (some 57) (.bool false))
    (some 58) undef) (some 59) undef) (some 60) undef) (some 61) undef) (some 62) undef) (some 63) undef) (some 64) undef) (some 65) undef) (some 66) undef) (some 67) undef) (some 68) (.bool false)
theorem draw97_run (call : Nat → List Value → Mem → RC) (T : PM Value) (M : Mem) (rh rk s b : Nat) (A B : Arr) (h0 : (Opd.t 0).ev T = .pointer (some ⟨rh, 0, none⟩)) (hA : arrOf M rh = some A) (h1 : A.cells.get 1 = some (.complex .f32 rk s))
    (hB : arrOf M rk = some B) (h2 : B.cells.get b = some (.int .i64 0)) (hlt : Nat.blt b (Know.lo s) = true)
    (h7 : (Opd.t 7).ev T = .int .i64 b) (h6 : (Opd.t 6).ev T = .int .i64 2) : runDraw call draw97 0 [] T M = .nrm (mid97 T rh rk s b 2) M := by
  have hn : natArg (.int .i64 (b : Int)) = some b := rfl
  unfold draw97 mid97
  rw [rd0 (M' := M) (.pointer (some ⟨rh, 0, none⟩)) rfl rfl (by simp [step, h0])]
  rw [rd0 (M' := M) (.pointer (some ⟨rh, 0, none⟩)) rfl rfl (by simp [step, ev_put])]
  rw [rd0 (M' := M) (.pointer (some ⟨rh, 1, none⟩)) rfl rfl (by simp [step, ev_put])]
  rw [rd1 (M' := M) (.complex .f32 rk s) rfl rfl (by simp [step, ev_put, hA, h1])]
  rw [rd0 (M' := M) (.int .i64 b) rfl rfl (by simp [step, ev_put, h7])]
  rw [rd0 (M' := M) (.pointer (some ⟨rk, b, none⟩)) rfl rfl (by simp [step, ev_put, hn, hlt])]
  rw [rd1 (M' := M) (.int .i64 0) rfl rfl (by simp [step, ev_put, hB, h2])]
  rw [rd0 (M' := M) (.int .i64 2) rfl rfl (by simp [step, ev_put, h6])]
  rw [rd0 (M' := M) (.bool false) rfl rfl (by simp [step, ev_put]; rfl)]
  rw [rd0 (M' := M) (.bool false) rfl rfl (by simp [step, ev_put])]
  iterate 10 rw [rd_skip rfl (by rw [wanted_boolOf]; simp [tval_put, boolOf])]
  rw [rd0 (M' := M) (.bool false) rfl rfl (by simp [step, ev_put]; rfl)]
  rw [runDraw]
  rw [still_all]
  · rfl
  · intro x hx
    simp at hx
    rcases hx with rfl | rfl
    · exact ⟨⟨M, by simp [step, ev_put, hB, h2]⟩, by simp [veq, veq1]; exact ⟨rfl, rfl⟩⟩
    · exact ⟨⟨M, by simp [step, ev_put, hA, h1]⟩, by simp [veq, veq1]⟩
end Go.Ai
