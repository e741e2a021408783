/-
  machine.Run told: it is so.
-/
import Derived.Test.YtclmkcmpfkmbpaaGreatDoorAi27
set_option maxRecDepth 100000
set_option linter.unusedSectionVars false
namespace Go.Ai
open Go Go.Proofs
variable [Sig] [Know] [KOk]

theorem hr7 : resO Tryz.prog Tryz.f7.ntmps Tryz.f7.results.toList = some ir7.results := by
  obtain ⟨_, _, _, hr, _⟩ := compF_inv ir7_ok
  exact hr

theorem fin7_leaves (hO : OvsOk Tryz.prog) {N : Nat} {A : List Value} {cap : Array Value} {γ0 γ1 : Gm} {M0 M1 : Mem} {W0 w1 : World} {r cr : Value} {u u' : FrameMode} (hrec : Rec u u' cr) (hset : settle u' = .returning) (hu : u ≠ .run)
    (hcap : LR γ1 A cap.toList) (hA : A.length ≤ 15) (hv : VR γ1 r cr) (hR : Rel γ1 M1 w1) {T : PM Value} {tmps tmps0 : Array Value} (hT : TR γ1 T tmps) (h4 : tmps0.getD 4 undef = tmps.getD 4 undef) (h5 : tmps0.getD 5 undef = tmps.getD 5 undef)
    (hE : Ext γ0 M0 W0 γ1 M1 w1) (hb : fin7 N A r T M1 ≠ .bad) : Leaves Tryz.prog Tryz.f7 tmps0 (Called γ0 M0 W0 (fin7 N A r T M1)) [dfr cap] u w1 := by
  unfold fin7 at hb ⊢
  cases h : run27 N A r M1 with
  | none => rw [h] at hb; exact absurd rfl hb
  | some M' =>
    rw [h] at hb
    simp only at hb ⊢
    refine leaves_cons hu (invoke27 cap w1) ((clos27 hO N hcap hA hrec hv hR h).mono fun e u1 w2 hh => ?_)
    obtain ⟨⟨v, rfl⟩, rfl, γ', hR', hE'⟩ := hh
    show Leaves Tryz.prog Tryz.f7 tmps0 _ [] (settle u1) w2
    rw [hset]
    obtain ⟨v, k1, k2⟩ := leave_ok hr7 (hT.mono hE'.le) hR' (hE.trans hE') hb
    exact ⟨v, by rw [results7 h4 h5]; exact k1, k2⟩

theorem tail7_ok (hO : OvsOk Tryz.prog) {N : Nat} {A : List Value} {cap : Array Value} {γ0 γ : Gm} {M0 M : Mem} {W0 W : World} {x y : Code} {k1 k2 : Nat} (ix : compC Tryz.prog Tryz.f7.ntmps k1 x = some (nth 11 ir7.body)) (iy : compC Tryz.prog Tryz.f7.ntmps k2 y = some (drp 12 ir7.body))
    {T : PM Value} {a : Act} (hd : a.defers = [dfr cap]) (hs : a.tmps.size = Tryz.f7.ntmps) (hT : TR γ T a.tmps) (hR : Rel γ M W) (hE : Ext γ0 M0 W0 γ M W) (hcap : LR γ A cap.toList) (hA : A.length ≤ 15) (hb : tail7 N A T M ≠ .bad) :
    (Code.seq x y).wp Tryz.prog (bodyPostD Tryz.prog Tryz.f7 (Called γ0 M0 W0 (tail7 N A T M))) a W := by
  rw [l711_is] at ix
  obtain ⟨id, ops, rfl, hops⟩ := inv_ops ix
  have hx := ex hO N
  have hb1 : runOps (callW (exec tab N) tab) l711 T M ≠ .bad := by
    intro e
    unfold tail7 at hb
    rw [e] at hb
    exact hb rfl
  refine wp_seq (wp_region_list (runOps_keep (calls_ok tab_ok hO hx) hops l711_keep hd hs hT hR ⟨rfl, rfl⟩ hb1 fun e a' w' he hk => ?_))
  unfold tail7 at hb ⊢
  generalize runOps (callW (exec tab N) tab) l711 T M = r1 at he hb ⊢
  cases r1 with
  | nrm T2 M2 =>
    obtain ⟨rfl, h3, h4, γ', h5, h6, h7⟩ := he.nrm
    simp only at hb ⊢
    cases h2 : exec tab N (drp 12 ir7.body) T2 M2 with
    | ret T3 M3 =>
      rw [h2] at hb
      simp only at hb ⊢
      refine Code.wp_mono (fun e2 a2 w2 he2 => ?_) (hx [dfr cap] Tryz.f7.ntmps k2 y _ iy T2 M2 a' γ' w' h3 h4 h5 h6 (by rw [h2]; intro e; cases e))
      rw [h2] at he2
      cases e2 <;> first | exact he2.elim | skip
      obtain ⟨d3, d4, γ2, d5, d6, d7⟩ := he2
      show Leaves Tryz.prog Tryz.f7 a2.tmps _ a2.defers .returning w2
      rw [d3]
      have hle := h7.le.trans d7.le
      exact fin7_leaves hO (.inl ⟨rfl, rfl, rfl⟩) rfl (by intro e; cases e) (hcap.mono hle) hA (.atom rfl) d6 d5 rfl rfl ((hE.trans h7).trans d7) hb
    | bad => rw [h2] at hb; exact absurd rfl hb
    | ext i T1 M1 => rw [h2] at hb; exact absurd rfl hb
    | got i T1 M1 => rw [h2] at hb; exact absurd rfl hb
    | nrm T1 M1 => rw [h2] at hb; exact absurd rfl hb
    | pan v M1 => rw [h2] at hb; exact absurd rfl hb
  | pan v M2 =>
    have hne : e ≠ .normal := he.ne (fun _ _ e => by cases e)
    refine then_of hne ?_
    cases e <;> first | exact he.elim | skip
    rename_i chain
    obtain ⟨d1, γ', cv, rfl, d2, d3, d4⟩ := he
    simp only at hb ⊢
    show Leaves Tryz.prog Tryz.f7 a'.tmps _ a'.defers (.panicking _) w'
    rw [d1]
    exact fin7_leaves hO (.inr ⟨rfl, rfl⟩) rfl (by intro e; cases e) (hcap.mono d4.le) hA d2 d3 (hT.mono d4.le) hk.1 hk.2 (hE.trans d4) hb
  | bad => exact absurd rfl hb
  | ext i T1 M1 => exact absurd rfl hb
  | got i T1 M1 => exact absurd rfl hb
  | ret T1 M1 => exact absurd rfl hb

theorem ov7 (hO : OvsOk Tryz.prog) (N : Nat) : OvOk Tryz.prog 7 (g7 N) := by
  obtain ⟨c, hbody, hic, hr, hnt⟩ := compF_inv ir7_ok
  have hx := ex hO N
  have hreg := reg76
  rw [hbody] at hreg
  intro args M γ W vs hR hL hb
  unfold g7 at hb ⊢
  cases hle : Nat.ble args.length ir7.ntmps with
  | false => rw [hle] at hb; exact absurd rfl hb
  | true =>
    rw [hle] at hb
    simp only [cond_true] at hb ⊢
    have hle' := Nat.le_of_ble_eq_true hle
    rw [hnt] at hle'
    have hl := hL.length
    have hsz : (vs ++ Array.replicate (Tryz.f7.ntmps - vs.size) undef).size = Tryz.f7.ntmps := by
      have : vs.toList.length = vs.size := by simp
      simp only [Array.size_append, Array.size_replicate]; omega
    refine calls_of_wp_defers fn7 hbody ?_
    rw [body7] at hic
    obtain ⟨x0, y, k0, rfl, i0, hic⟩ := inv_seq hic
    obtain ⟨x1, y, k1, rfl, i1, hic⟩ := inv_seq hic
    obtain ⟨x2, y, k2, rfl, i2, hic⟩ := inv_seq hic
    obtain ⟨x3, y, k3, rfl, i3, hic⟩ := inv_seq hic
    obtain ⟨x4, y, k4, rfl, i4, hic⟩ := inv_seq hic
    obtain ⟨x5, y, k5, rfl, i5, hic⟩ := inv_seq hic
    obtain ⟨x6, y, k6, rfl, i6, hic⟩ := inv_seq hic
    obtain ⟨x7, y, k7, rfl, i7, hic⟩ := inv_seq hic
    obtain ⟨x8, y, k8, rfl, i8, hic⟩ := inv_seq hic
    obtain ⟨x9, y, k9, rfl, i9, hic⟩ := inv_seq hic
    obtain ⟨x10, y, k10, rfl, i10, hic⟩ := inv_seq hic
    obtain ⟨x11, y, k11, rfl, i11, i12⟩ := inv_seq hic
    have hx5 : x5 = .region 6 #[o76a, o76b] false := by
      simpa [chd, ctl] using hreg
    subst hx5
    refine seqN (Pc.exec hx i0) rfl hsz (init_TR hL _) hR hb fun T1 M1 a1 γ1 W1 d1 s1 t1 r1 e1 hb => ?_
    refine seqN (Pc.exec hx i1) d1 s1 t1 r1 hb fun T2 M2 a2 γ2 W2 d2 s2 t2 r2 e2 hb => ?_
    refine seqN (Pc.exec hx i2) d2 s2 t2 r2 hb fun T3 M3 a3 γ3 W3 d3 s3 t3 r3 e3 hb => ?_
    refine seqP hr (Pc.exec hx i3) d3 s3 t3 r3 (((e1.trans e2).trans e3)) hb fun T4 M4 a4 γ4 W4 d4 s4 t4 r4 e4 hb => ?_
    refine seqN (Pc.exec hx i4) d4 s4 t4 r4 hb fun T5 M5 a5 γ5 W5 d5 s5 t5 r5 e5 hb => ?_
    have e15 := (((e1.trans e2).trans e3).trans e4).trans e5
    refine wp_seq (reg76_wp d5 (s5.trans f7_nt) ?_)
    have hcap : LR γ5 [tval T5 10, tval T5 5, tval T5 4] (#[a5.tmps.getD 10 undef, a5.tmps.getD 5 undef, a5.tmps.getD 4 undef] : Array Value).toList := ⟨t5 10, t5 5, t5 4, trivial⟩
    have hvf : VR γ5 (.func (.func 27) #[] ⟨[tval T5 10, tval T5 5, tval T5 4]⟩) (.func (.func 27) #[] #[a5.tmps.getD 10 undef, a5.tmps.getD 5 undef, a5.tmps.getD 4 undef]) := by
      refine .func rfl (fun i x y h => by simp at h) rfl (fun i x y h1 h2 => ?_)
      match i, h1, h2 with
      | 0, h1, h2 => cases h1; cases h2; exact t5 10
      | 1, h1, h2 => cases h1; cases h2; exact t5 5
      | 2, h1, h2 => cases h1; cases h2; exact t5 4
      | n + 3, h1, h2 => simp at h1
    obtain ⟨p1, p2, p3⟩ := t5.put s5 (d := some 58) (by rw [f7_nt]; rfl) hvf
    unfold defer7 rest7 at hb ⊢
    refine seqN (a := { a5.put (some 58) (.func (.func 27) #[] #[a5.tmps.getD 10 undef, a5.tmps.getD 5 undef, a5.tmps.getD 4 undef]) with defers := [dfr #[a5.tmps.getD 10 undef, a5.tmps.getD 5 undef, a5.tmps.getD 4 undef]] }) (D := [dfr #[a5.tmps.getD 10 undef, a5.tmps.getD 5 undef, a5.tmps.getD 4 undef]]) (Pc.exec hx i6) rfl p2 p1 r5 hb fun T6 M6 a6 γ6 W6 d6 s6 t6 r6 e6 hb => ?_
    refine seqN (Pc.exec hx i7) d6 s6 t6 r6 hb fun T7 M7 a7 γ7 W7 d7 s7 t7 r7 e7 hb => ?_
    refine seqN (Pc.exec hx i8) d7 s7 t7 r7 hb fun T8 M8 a8 γ8 W8 d8 s8 t8 r8 e8 hb => ?_
    refine seqN (Pc.exec hx i9) d8 s8 t8 r8 hb fun T9 M9 a9 γ9 W9 d9 s9 t9 r9 e9 hb => ?_
    refine seqN (Pc.exec hx i10) d9 s9 t9 r9 hb fun T10 M10 a10 γ10 W10 d10 s10 t10 r10 e10 hb => ?_
    have e610 := ((((e6.trans e7).trans e8).trans e9).trans e10)
    exact tail7_ok hO i11 i12 d10 s10 t10 r10 (e15.trans e610) (hcap.mono e610.le) (by simp) hb
end Go.Ai
