/-
  The law MachineArgs answers true, whatever its four inputs are.
-/
import Derived.Test.YtclmkcmpfkmbpaaGreatDoorAi37
import Derived.RowKit3
set_option maxRecDepth 100000
set_option linter.unusedSectionVars false
namespace Go.Ai
open Go Go.Proofs Go.RowKit

theorem body3 : ir3.body = .seq (nth 0 ir3.body) (.seq (nth 1 ir3.body) (.seq (nth 2 ir3.body) (.seq (nth 3 ir3.body) (.seq (nth 4 ir3.body) (.seq (nth 5 ir3.body) (drp 6 ir3.body)))))) := by kernel_rfl
def k3 (c : Cls) (T : PM Value) (M : Mem) : R := bindR (pre3 T M) (post3 c)
theorem k3_is (c : Cls) : k3 c (initT arg3) Mem.empty = post3 c s3T s3M := by
  unfold k3
  rw [pre3_is]
  exact bindR_nrm _ _ _
theorem len3 : Nat.ble arg3.length ir3.ntmps = true := by kernel_rfl

section
variable {c : Cls} {x : Inp} (hx : cAny.has x) (h : c.has x)
include hx h
theorem ov3 : @OvOk (sig x) Tryz.prog 3 (fun args M => bif Nat.ble args.length ir3.ntmps then @finish (K2 c NN) ir3 (k3 c (initT args) M) else .bad) := by
  obtain ⟨func, hf, hc⟩ := fn3_in
  have hE1 := @ex (sig x) (K3 cAny) (know_ok hx _) (ovsC hx hx) NN
  have hE2 := @ex (sig x) (K2 c NN) (know_ok h _) (ovsB h NN) NN
  letI := sig x
  letI := K2 c NN
  haveI : KOk := know_ok h _
  refine ov_of hf hc (k3 c) fun cd _ hic => ?_
  have p1 : ∀ {k cd ic}, compC Tryz.prog func.ntmps k cd = some ic → Pc Tryz.prog [] func.ntmps cd (@exec (K3 cAny) tab NN ic) := fun hi T M a γ W h1 h2 h3 h4 h5 => hE1 [] func.ntmps _ _ _ hi T M a γ W h1 h2 h3 h4 h5
  have p2 : ∀ {k cd ic}, compC Tryz.prog func.ntmps k cd = some ic → Pc Tryz.prog [] func.ntmps cd (@exec (K2 c NN) tab NN ic) := fun hi T M a γ W h1 h2 h3 h4 h5 => hE2 [] func.ntmps _ _ _ hi T M a γ W h1 h2 h3 h4 h5
  rw [body3] at hic
  obtain ⟨x0, y, k0, rfl, i0, hic⟩ := inv_seq hic
  obtain ⟨x1, y, k1, rfl, i1, hic⟩ := inv_seq hic
  obtain ⟨x2, y, k2, rfl, i2, hic⟩ := inv_seq hic
  obtain ⟨x3, y, k3', rfl, i3, hic⟩ := inv_seq hic
  obtain ⟨x4, y, k4, rfl, i4, hic⟩ := inv_seq hic
  obtain ⟨x5, y, k5, rfl, i5, i6⟩ := inv_seq hic
  have hp := (p1 i0).seq ((p1 i1).seq ((p1 i2).seq ((p1 i3).seq ((p1 i4).seq ((p1 i5).seq (p2 i6))))))
  have e : k3 c = fun T M => bindR (@exec (K3 cAny) tab NN (nth 0 ir3.body) T M) fun T M => bindR (@exec (K3 cAny) tab NN (nth 1 ir3.body) T M) fun T M => bindR (@exec (K3 cAny) tab NN (nth 2 ir3.body) T M) fun T M =>
      bindR (@exec (K3 cAny) tab NN (nth 3 ir3.body) T M) fun T M => bindR (@exec (K3 cAny) tab NN (nth 4 ir3.body) T M) fun T M => bindR (@exec (K3 cAny) tab NN (nth 5 ir3.body) T M) (@exec (K2 c NN) tab NN (drp 6 ir3.body)) := by
    funext T M
    unfold k3 pre3
    simp only [bindR_assoc]
    rfl
  rw [e]
  exact hp

theorem law_class (hok : okC c = true) (W : World) : Calls Tryz.prog 3 #[.agg #[.int .i64 x.words, .int .i64 x.stack, .int .i64 x.marks, .int .i64 x.fuel]] W fun e w => e = .returned (.bool true) ∧ Grown W w := by
  obtain ⟨M', hM⟩ := isTrue_ret hok
  have hov := ov3 hx h
  have hval : (bif Nat.ble arg3.length ir3.ntmps then @finish (K2 c NN) ir3 (k3 c (initT arg3) Mem.empty) else .bad) = .ret (.bool true) M' := by
    rw [len3, cond_true, k3_is]
    exact hM
  have hL : @LR (sig x) (fun _ => none) arg3 (#[.agg #[.int .i64 x.words, .int .i64 x.stack, .int .i64 x.marks, .int .i64 x.fuel]] : Array Value).toList := by
    refine ⟨@VR.agg_list (sig x) _ _ _ ⟨@VR.symI (sig x) _ 0, @VR.symI (sig x) _ 1, @VR.symI (sig x) _ 2, @VR.symI (sig x) _ 3, trivial⟩, trivial⟩
  have hR := @rel_empty (sig x) (K2 c NN) (know_ok h _) W
  have hc := hov arg3 Mem.empty (fun _ => none) W _ hR hL (by show (bif _ then _ else _) ≠ _; rw [hval]; intro e; cases e)
  refine hc.mono fun e w he => ?_
  have he : @Called (sig x) (fun _ => none) Mem.empty W (bif Nat.ble arg3.length ir3.ntmps then @finish (K2 c NN) ir3 (k3 c (initT arg3) Mem.empty) else .bad) e w := he
  rw [hval] at he
  cases e <;> first | exact he.elim | skip
  obtain ⟨γ', k1, k2, k3⟩ := he
  have hf : ∀ b, b < W.heap.size → w.heap[b]? = W.heap[b]? := fun b hb => k3.frame b hb (fun r g h => by cases h)
  refine ⟨?_, ⟨k3.os, k3.output, fun i hi => ?_⟩, k3.froz, k3.size⟩
  · letI := sig x
    letI := K2 c NN
    haveI : KOk := know_ok h _
    rw [k1.atom_eq rfl]
  · rw [hf i hi]
    have h0 := (World.keptBut_refl W (fun _ => False)).2.2 i hi
    exact h0
end

theorem classes (x : Inp) (hx : cAny.has x) : ∃ c : Cls, c.has x ∧ okC c = true := by
  simp only [Cls.has, Bd.has, cAny, top, small, big] at hx
  by_cases w1 : x.words < 32
  · by_cases s1 : x.stack < 0
    · exact ⟨_, by simp only [Cls.has, Bd.has, wLo, sNeg, top, small, big]; omega, ok1⟩
    · by_cases s2 : 16384 < x.stack
      · exact ⟨_, by simp only [Cls.has, Bd.has, wLo, sBig, top, small, big]; omega, ok3⟩
      · exact ⟨_, by simp only [Cls.has, Bd.has, wLo, sOk, top, small, big]; omega, ok2⟩
  · by_cases w2 : 65536 < x.words
    · by_cases s1 : x.stack < 0
      · exact ⟨_, by simp only [Cls.has, Bd.has, wHi, sNeg, top, small, big]; omega, ok4⟩
      · by_cases s2 : 16384 < x.stack
        · exact ⟨_, by simp only [Cls.has, Bd.has, wHi, sBig, top, small, big]; omega, ok6⟩
        · exact ⟨_, by simp only [Cls.has, Bd.has, wHi, sOk, top, small, big]; omega, ok5⟩
    · by_cases s1 : x.stack < 0
      · exact ⟨_, by simp only [Cls.has, Bd.has, wOk, sNeg, top, small, big]; omega, ok7⟩
      · by_cases s2 : 16384 < x.stack
        · exact ⟨_, by simp only [Cls.has, Bd.has, wOk, sBig, top, small, big]; omega, ok8⟩
        · by_cases m1 : x.marks < 1
          · exact ⟨_, by simp only [Cls.has, Bd.has, wOk, sOk, top, small, big]; omega, ok9⟩
          · by_cases f1 : x.fuel < 0
            · exact ⟨_, by simp only [Cls.has, Bd.has, wOk, sOk, mOk, small, big]; omega, ok10⟩
            · by_cases f2 : x.fuel = 0
              · exact ⟨_, by simp only [Cls.has, Bd.has, wOk, sOk, mOk, big]; omega, ok11⟩
              · by_cases s3 : x.stack < 3
                · exact ⟨_, by simp only [Cls.has, Bd.has, wOk, mOk, big]; omega, ok12⟩
                · by_cases f3 : x.fuel = 1
                  · exact ⟨_, by simp only [Cls.has, Bd.has, wOk, mOk, big]; omega, ok13⟩
                  · by_cases f4 : x.fuel = 2
                    · exact ⟨_, by simp only [Cls.has, Bd.has, wOk, mOk, big]; omega, ok14⟩
                    · by_cases f5 : x.fuel = 3
                      · exact ⟨_, by simp only [Cls.has, Bd.has, wOk, mOk, big]; omega, ok15⟩
                      · exact ⟨_, by simp only [Cls.has, Bd.has, wOk, mOk, big]; omega, ok16⟩

/-- The law, for every four inputs that are int64. -/
theorem law_calls (a b c d : Int) (ha : top.has a) (hb : top.has b) (hc : top.has c) (hd : top.has d) (W : World) :
    Calls Tryz.prog 3 #[.agg #[.int .i64 a, .int .i64 b, .int .i64 c, .int .i64 d]] W fun e w => e = .returned (.bool true) ∧ Grown W w := by
  have hx : cAny.has ⟨a, b, c, d⟩ := ⟨ha, hb, hc, hd⟩
  obtain ⟨cl, h, hok⟩ := classes ⟨a, b, c, d⟩ hx
  exact law_class hx h hok W
end Go.Ai
