/-
  The abstract interpreter: each of its instructions does what the model's operation does: what needs no memory.
-/
import Derived.Test.YtclmkcmpfkmbpaaGreatDoorAi8
import Derived.Laws.Slices
import Derived.Laws.Strings3
set_option linter.unusedSectionVars false
namespace Go.Ai
open Go

variable [Sig] [Know] [KOk]

variable {P : Program} {γ : Gm} {M M' : Mem} {W : World} {T : PM Value} {a : Act} {v : Value}

theorem mov_runs {x : Operand} {x' : Opd} (hx : opd x = some x') (hT : TR γ T a.tmps) (hR : Rel γ M W) (h : step T M (.mov x') = some (v, M')) : Runs P (pure (.value (a.eval x))) W γ M v M' := by
  simp only [step] at h
  cases h
  exact Runs.pure rfl (opd_ev hx hT) hR

theorem pick_runs {c x y : Operand} {c' x' y' : Opd} (hc : opd c = some c') (hx : opd x = some x') (hy : opd y = some y') (hT : TR γ T a.tmps) (hR : Rel γ M W)
    (h : step T M (.pick c' x' y') = some (v, M')) : Runs P (do pure (.value (if ← asBool (a.eval c) then a.eval x else a.eval y))) W γ M v M' := by
  simp only [step] at h
  have hv := opd_ev hc hT
  split at h
  · rename_i e
    rw [e] at hv
    cases h
    rw [hv.bool]
    exact Runs.pure (by simp [asBool]) (opd_ev hx hT) hR
  · rename_i e
    rw [e] at hv
    cases h
    rw [hv.bool]
    exact Runs.pure (by simp [asBool]) (opd_ev hy hT) hR
  · cases h

theorem nilck_runs {x : Operand} {x' : Opd} (hx : opd x = some x') (hT : TR γ T a.tmps) (hR : Rel γ M W) (h : step T M (.nilck x') = some (v, M')) :
    ∃ b, a.eval x = .pointer (some b) ∧ Runs P (pure (.value (a.eval x))) W γ M v M' := by
  simp only [step] at h
  have hv := opd_ev hx hT
  split at h
  · rename_i b e
    cases h
    rw [e] at hv
    obtain ⟨b', hb⟩ := hv.ptrSome
    exact ⟨b', hb, Runs.pure rfl hv hR⟩
  · cases h

theorem VR.atom_eq {a b : Value} (h : VR γ a b) (ha : atomV a = true) : b = a := by
  cases h with
  | atom h => rfl
  | _ => simp [atomV] at ha

theorem bin_atoms {op : BinOp} {x y v : Value} (h : bin op x y = some v) : atomV x = true ∧ atomV y = true := by
  unfold bin at h
  split at h
  · exact ⟨rfl, rfl⟩
  · exact ⟨rfl, rfl⟩
  · cases h

theorem bin_runs {op : BinOp} {t : TypeId} {x y : Operand} {x' y' : Opd} (hx : opd x = some x') (hy : opd y = some y') (hT : TR γ T a.tmps) (hR : Rel γ M W) (h : step T M (.bin op x' y') = some (v, M')) :
    Runs P (do pure (.value (← (do eqGuard op t x y (a.eval x) (a.eval y); binOp op t (a.eval x) (a.eval y))))) W γ M v M' := by
  simp only [step] at h
  have hvx := opd_ev hx hT
  have hvy := opd_ev hy hT
  split at h
  · rename_i u hu
    cases h
    obtain ⟨h1, h2⟩ := bin_atoms hu
    rw [hvx.atom_eq h1, hvy.atom_eq h2]
    obtain ⟨k1, k2, k3, k4⟩ := bin_run (P := P) (t := t) W hu
    refine Runs.v ?_ (k4 γ) hR
    rw [Sem.run_bind, run_eqGuard_flat W k2 k3]
    exact k1
  · split at h
    · rename_i b hb
      cases h
      have key : ∃ cx cy cv, a.eval x = cx ∧ a.eval y = cy ∧ bin op cx cy = some cv ∧ ∀ γ, VR γ v cv := by
        unfold symCmp at hb
        split at hb
        · rename_i i c e1 e2
          rw [e1] at hvx
          rw [e2] at hvy
          obtain ⟨cv, k1, k2⟩ := KOk.cmpL i op c _ hb
          exact ⟨_, _, cv, hvx.sym_inv, hvy.int, k1, k2⟩
        · rename_i c i e1 e2
          rw [e1] at hvx
          rw [e2] at hvy
          obtain ⟨cv, k1, k2⟩ := KOk.cmpR i op c _ hb
          exact ⟨_, _, cv, hvx.int, hvy.sym_inv, k1, k2⟩
        · cases hb
      obtain ⟨cx, cy, cv, e1, e2, hu, hv⟩ := key
      obtain ⟨k1, k2, k3, k4⟩ := bin_run (P := P) (t := t) W hu
      rw [e1, e2]
      refine Runs.v ?_ (hv γ) hR
      rw [Sem.run_bind, run_eqGuard_flat W k2 k3]
      exact k1
    · cases h

theorem equal_nil {t e : TypeId} (hu : P.underlying t = some (.pointer e)) (q : Option Addr) (W : World) : (Op.equal t (.pointer none) (.pointer q)).run P W = .ok q.isNone W := by
  have key : ∀ d, (Op.equalIn (d + 1) t (.pointer none) (.pointer q)).run P W = .ok q.isNone W := fun d => by
    simp only [Op.equalIn, Sem.run_bind, run_underlying hu, Result.andThen_ok, Sem.run_pure]
  exact key 9999
theorem equal_nil' {t e : TypeId} (hu : P.underlying t = some (.pointer e)) (q : Addr) (W : World) : (Op.equal t (.pointer (some q)) (.pointer none)).run P W = .ok false W := by
  have key : ∀ d, (Op.equalIn (d + 1) t (.pointer (some q)) (.pointer none)).run P W = .ok false W := fun d => by
    simp only [Op.equalIn, Sem.run_bind, run_underlying hu, Result.andThen_ok, Sem.run_pure]
  exact key 9999

theorem eqp_runs {neg : Bool} {op : BinOp} {t e : TypeId} (hu : P.underlying t = some (.pointer e)) (hop : op = (bif neg then .neq else .eql)) {x y : Operand} {x' y' : Opd} (hx : opd x = some x') (hy : opd y = some y')
    (hT : TR γ T a.tmps) (hR : Rel γ M W) (h : step T M (.eqp neg x' y') = some (v, M')) :
    Runs P (do pure (.value (← (do eqGuard op t x y (a.eval x) (a.eval y); binOp op t (a.eval x) (a.eval y))))) W γ M v M' := by
  simp only [step] at h
  have hvx := opd_ev hx hT
  have hvy := opd_ev hy hT
  split at h
  · rename_i b hb
    cases h
    have key : ∃ p q, a.eval x = .pointer p ∧ a.eval y = .pointer q ∧ (Op.equal t (.pointer p) (.pointer q)).run P W = .ok b W := by
      unfold eqp at hb
      split at hb
      · rename_i e1 e2
        cases hb
        rw [e1] at hvx; rw [e2] at hvy
        exact ⟨none, none, hvx.ptrNil, hvy.ptrNil, equal_nil hu none W⟩
      · rename_i q e1 e2
        cases hb
        rw [e1] at hvx; rw [e2] at hvy
        obtain ⟨q', hq⟩ := hvy.ptrSome
        exact ⟨none, some q', hvx.ptrNil, hq, equal_nil hu (some q') W⟩
      · rename_i q e1 e2
        cases hb
        rw [e1] at hvx; rw [e2] at hvy
        obtain ⟨q', hq⟩ := hvx.ptrSome
        exact ⟨some q', none, hq, hvy.ptrNil, equal_nil' hu q' W⟩
      · cases hb
    obtain ⟨p, q, h1, h2, h3⟩ := key
    rw [h1, h2]
    refine Runs.v (cv := .bool (bif neg then !b else b)) ?_ (.atom rfl) hR
    rw [Sem.run_bind, run_eqGuard_flat W (by intro c e; cases e) (by intro e; cases e)]
    subst hop
    cases neg with
    | false => simp [binOp, h3]
    | true => simp [binOp, h3]
  · cases h

theorem not_runs {x : Operand} {x' : Opd} (hx : opd x = some x') (hT : TR γ T a.tmps) (hR : Rel γ M W) (h : step T M (.not x') = some (v, M')) :
    Runs P (do pure (.value (← Op.unary .not (a.eval x)))) W γ M v M' := by
  simp only [step] at h
  have hv := opd_ev hx hT
  split at h
  · rename_i b e
    rw [e] at hv
    cases h
    rw [hv.bool]
    exact Runs.v rfl (.atom rfl) hR
  · cases h
theorem neg_runs {x : Operand} {x' : Opd} (hx : opd x = some x') (hT : TR γ T a.tmps) (hR : Rel γ M W) (h : step T M (.neg x') = some (v, M')) :
    Runs P (do pure (.value (← Op.unary .neg (a.eval x)))) W γ M v M' := by
  simp only [step] at h
  have hv := opd_ev hx hT
  split at h
  · rename_i k n e
    rw [e] at hv
    split at h
    · rename_i u hu
      cases h
      rw [hv.int, fitv_spec hu]
      exact Runs.v rfl (.atom rfl) hR
    · cases h
  · cases h
theorem conv_runs {s d : TypeId} {j k : IntKind} (hs : P.underlying s = some (.int j)) (hd : P.underlying d = some (.int k)) {x : Operand} {x' : Opd} (hx : opd x = some x') (hT : TR γ T a.tmps) (hR : Rel γ M W)
    (h : step T M (.conv k x') = some (v, M')) : Runs P (do pure (.value (← convert s d (a.eval x)))) W γ M v M' := by
  simp only [step] at h
  have hv := opd_ev hx hT
  split at h
  · rename_i i n e
    rw [e] at hv
    split at h
    · rename_i u hu
      cases h
      rw [hv.int, fitv_spec hu]
      exact Runs.v (by simp [convert, run_underlying hs, run_underlying hd, Conv.intToInt]) (.atom rfl) hR
    · cases h
  · cases h
theorem iface_runs {t : TypeId} {d : TypeDesc} (hd : P.underlying t = some d) (hn : ∀ ms, d ≠ .interface ms) {x : Operand} {x' : Opd} (hx : opd x = some x') (hT : TR γ T a.tmps) (hR : Rel γ M W)
    (h : step T M (.iface t x') = some (v, M')) : Runs P (do pure (.value (← Instr.makeInterface t (a.eval x)))) W γ M v M' := by
  simp only [step] at h
  cases h
  refine Runs.v (cv := .iface t (a.eval x)) ?_ (.iface (opd_ev hx hT)) hR
  unfold Instr.makeInterface
  rw [Sem.run_bind, run_underlying hd]
  cases d <;> first | rfl | exact absurd rfl (hn _)

/- Structs of four numbers -/
theorem fldI_spec {f : Field} {i : Nat} (h : fldI P f i = true) : f.name ≠ "_" ∧ f.offset = i ∧ P.underlying f.type = some (.int .i64) := by
  unfold fldI at h
  simp only [Bool.and_eq_true] at h
  obtain ⟨⟨h1, h2⟩, h3⟩ := h
  refine ⟨by simpa using h1, Nat.eq_of_beq_eq_true h2, ?_⟩
  split at h3
  · rename_i e; exact e
  · cases h3
theorem eqaT_spec {t : TypeId} (h : eqaT P t = true) : ∃ fs a b c d, P.underlying t = some (.struct fs) ∧ fs.toList = [a, b, c, d] ∧ fldI P a 0 = true ∧ fldI P b 1 = true ∧ fldI P c 2 = true ∧ fldI P d 3 = true ∧ P.stoodInHeld t = false ∧ P.eqGuardType P.depth t = false := by
  unfold eqaT at h
  split at h
  · rename_i fs hu
    split at h
    · rename_i a b c d hf
      simp only [Bool.and_eq_true, Bool.not_eq_true'] at h
      obtain ⟨⟨⟨⟨⟨h1, h2⟩, h3⟩, h4⟩, h5⟩, h6⟩ := h
      exact ⟨fs, a, b, c, d, hu, hf, h1, h2, h3, h4, h5, h6⟩
    · cases h
  · cases h
theorem part_int {f : Field} {i : Nat} (hf : fldI P f i = true) {cs : Array Value} {v : Value} (h : cs[i]? = some v) (W : World) : (part f.type cs f.offset).run P W = .ok v W := by
  obtain ⟨_, h2, h3⟩ := fldI_spec hf
  have ha : aggT P f.type = some false := by unfold aggT; rw [h3]
  rw [h2]
  simp [part, aggT_false ha, h]
theorem equal_int {t : TypeId} (hu : P.underlying t = some (.int .i64)) (d : Nat) (a b : Int) (W : World) : (Op.equalIn (d + 1) t (.int .i64 a) (.int .i64 b)).run P W = .ok (ieq a b) W := by
  simp only [Op.equalIn, Sem.run_bind, run_underlying hu, Result.andThen_ok, if_true, Sem.run_pure, ieq_spec]
theorem equal_four {t : TypeId} (h : eqaT P t = true) (a b c d e f g k : Int) (W : World) :
    (Op.equal t (.agg #[.int .i64 a, .int .i64 b, .int .i64 c, .int .i64 d]) (.agg #[.int .i64 e, .int .i64 f, .int .i64 g, .int .i64 k])).run P W = .ok (ieq a e && (ieq b f && (ieq c g && ieq d k))) W := by
  obtain ⟨fs, f0, f1, f2, f3, hu, hfs, h0, h1, h2, h3, h4, h5⟩ := eqaT_spec h
  have key : ∀ n, (Op.equalIn (n + 1 + 1) t (.agg #[.int .i64 a, .int .i64 b, .int .i64 c, .int .i64 d]) (.agg #[.int .i64 e, .int .i64 f, .int .i64 g, .int .i64 k])).run P W = .ok (ieq a e && (ieq b f && (ieq c g && ieq d k))) W := fun n => by
    rw [Op.equalIn]
    simp only [Sem.run_bind, run_underlying hu, Result.andThen_ok]
    have hpr : (program : Sem Program).run P W = .ok P W := rfl
    rw [hpr]
    simp only [Result.andThen_ok, h4, Bool.false_eq_true, if_false, ← Array.forIn_toList, hfs, List.forIn_cons, List.forIn_nil, ne_eq, (fldI_spec h0).1, (fldI_spec h1).1, (fldI_spec h2).1, (fldI_spec h3).1, not_false_eq_true, if_true, Sem.run_bind]
    have g0 := part_int h0 (v := .int .i64 a) (cs := #[.int .i64 a, .int .i64 b, .int .i64 c, .int .i64 d]) rfl W
    have g1 := part_int h1 (v := .int .i64 b) (cs := #[.int .i64 a, .int .i64 b, .int .i64 c, .int .i64 d]) rfl W
    have g2 := part_int h2 (v := .int .i64 c) (cs := #[.int .i64 a, .int .i64 b, .int .i64 c, .int .i64 d]) rfl W
    have g3 := part_int h3 (v := .int .i64 d) (cs := #[.int .i64 a, .int .i64 b, .int .i64 c, .int .i64 d]) rfl W
    have k0 := part_int h0 (v := .int .i64 e) (cs := #[.int .i64 e, .int .i64 f, .int .i64 g, .int .i64 k]) rfl W
    have k1 := part_int h1 (v := .int .i64 f) (cs := #[.int .i64 e, .int .i64 f, .int .i64 g, .int .i64 k]) rfl W
    have k2 := part_int h2 (v := .int .i64 g) (cs := #[.int .i64 e, .int .i64 f, .int .i64 g, .int .i64 k]) rfl W
    have k3 := part_int h3 (v := .int .i64 k) (cs := #[.int .i64 e, .int .i64 f, .int .i64 g, .int .i64 k]) rfl W
    have q0 := equal_int (fldI_spec h0).2.2 n a e W
    have q1 := equal_int (fldI_spec h1).2.2 n b f W
    have q2 := equal_int (fldI_spec h2).2.2 n c g W
    have q3 := equal_int (fldI_spec h3).2.2 n d k W
    simp only [g0, k0, q0, Result.andThen_ok]
    cases e0 : ieq a e
    · simp
    · simp only [Bool.not_true, Bool.false_eq_true, if_false, Sem.run_pure, Result.andThen_ok, g1, k1, q1, Sem.run_bind]
      cases e1 : ieq b f
      · simp
      · simp only [Bool.not_true, Bool.false_eq_true, if_false, Sem.run_pure, Result.andThen_ok, g2, k2, q2, Sem.run_bind]
        cases e2 : ieq c g
        · simp
        · simp only [Bool.not_true, Bool.false_eq_true, if_false, Sem.run_pure, Result.andThen_ok, g3, k3, q3, Sem.run_bind]
          cases e3 : ieq d k <;> simp
  exact key 9998

theorem four_inv {a b c d : Int} {cv : Value} (h : VR γ (.agg ⟨[.int .i64 a, .int .i64 b, .int .i64 c, .int .i64 d]⟩) cv) : cv = .agg #[.int .i64 a, .int .i64 b, .int .i64 c, .int .i64 d] := by
  obtain ⟨b', rfl, hl⟩ := VR.agg_inv h
  obtain ⟨l⟩ := b'
  match l, hl with
  | [x, y, z, w], ⟨h1, h2, h3, h4, _⟩ =>
    rw [h1.int, h2.int, h3.int, h4.int]
theorem eqa_runs {neg : Bool} {op : BinOp} {t : TypeId} (hq : eqaT P t = true) (hop : op = (bif neg then .neq else .eql)) {x y : Operand} {x' y' : Opd} (hx : opd x = some x') (hy : opd y = some y')
    (hT : TR γ T a.tmps) (hR : Rel γ M W) (h : step T M (.eqa neg x' y') = some (v, M')) :
    Runs P (do pure (.value (← (do eqGuard op t x y (a.eval x) (a.eval y); binOp op t (a.eval x) (a.eval y))))) W γ M v M' := by
  simp only [step] at h
  have hvx := opd_ev hx hT
  have hvy := opd_ev hy hT
  split at h
  · rename_i a1 b1 c1 d1 e1 f1 g1 k1 ex ey
    cases h
    rw [ex] at hvx
    rw [ey] at hvy
    rw [four_inv hvx, four_inv hvy]
    obtain ⟨_, _, _, _, _, _, _, _, _, _, _, _, hg⟩ := eqaT_spec hq
    have hpr : (program : Sem Program).run P W = .ok P W := rfl
    refine Runs.v (cv := .bool (bif neg then !(ieq a1 e1 && (ieq b1 f1 && (ieq c1 g1 && ieq d1 k1))) else (ieq a1 e1 && (ieq b1 f1 && (ieq c1 g1 && ieq d1 k1))))) ?_ (.atom rfl) hR
    subst hop
    cases neg with
    | false => simp [eqGuard, hpr, hg, binOp, equal_four hq]
    | true => simp [eqGuard, hpr, hg, binOp, equal_four hq]
  · cases h
theorem equal_ifaceNil {t : TypeId} {ms : Array (String × TypeId)} (hu : P.underlying t = some (.interface ms)) (u : TypeId) (v : Value) (W : World) : (Op.equal t (.iface u v) .nilIface).run P W = .ok false W := by
  have key : ∀ d, (Op.equalIn (d + 1) t (.iface u v) .nilIface).run P W = .ok false W := fun d => by
    simp only [Op.equalIn, Sem.run_bind, run_underlying hu, Result.andThen_ok, Sem.run_pure]
  exact key 9999
theorem equal_nilNil {t : TypeId} {ms : Array (String × TypeId)} (hu : P.underlying t = some (.interface ms)) (W : World) : (Op.equal t .nilIface .nilIface).run P W = .ok true W := by
  have key : ∀ d, (Op.equalIn (d + 1) t .nilIface .nilIface).run P W = .ok true W := fun d => by
    simp only [Op.equalIn, Sem.run_bind, run_underlying hu, Result.andThen_ok, Sem.run_pure]
  exact key 9999
theorem opd_nilIface {y : Operand} (hy : opd y = some (.c .nilIface)) : y = .const .nilIface := by
  cases y with
  | tmp t => cases hy
  | const v =>
    have hy : (bif plainV v then some (Opd.c v) else none) = some (.c .nilIface) := hy
    obtain ⟨_, e⟩ := cond_some hy
    cases e; rfl
  | func f => cases hy
  | global g => cases hy
theorem ifn_runs {neg : Bool} {op : BinOp} {t : TypeId} {ms : Array (String × TypeId)} (hu : P.underlying t = some (.interface ms)) (hop : op = (bif neg then .neq else .eql)) {x y : Operand} {x' : Opd} (hx : opd x = some x') (hy : opd y = some (.c .nilIface))
    (hT : TR γ T a.tmps) (hR : Rel γ M W) (h : step T M (.ifn neg x') = some (v, M')) :
    Runs P (do pure (.value (← (do eqGuard op t x y (a.eval x) (a.eval y); binOp op t (a.eval x) (a.eval y))))) W γ M v M' := by
  simp only [step] at h
  have hvx := opd_ev hx hT
  have := opd_nilIface hy
  subst this
  have ey : a.eval (.const .nilIface) = .nilIface := rfl
  split at h
  · rename_i e1
    cases h
    rw [e1] at hvx
    rw [hvx.atom_eq rfl, ey]
    refine Runs.v (cv := .bool (!neg)) ?_ (.atom rfl) hR
    subst hop
    cases neg with
    | false => simp [eqGuard, binOp, equal_nilNil hu]
    | true => simp [eqGuard, binOp, equal_nilNil hu]
  · rename_i u w e1
    cases h
    rw [e1] at hvx
    obtain ⟨cw, hc, _⟩ := hvx.iface_inv
    rw [hc, ey]
    refine Runs.v (cv := .bool neg) ?_ (.atom rfl) hR
    subst hop
    cases neg with
    | false => simp [eqGuard, binOp, equal_ifaceNil hu]
    | true => simp [eqGuard, binOp, equal_ifaceNil hu]
  · cases h
theorem tas_runs {t xt : TypeId} {d : TypeDesc} (hd : P.underlying t = some d) (hn : ∀ ms, d ≠ .interface ms) {x : Operand} {x' : Opd} (hx : opd x = some x') (hT : TR γ T a.tmps) (hR : Rel γ M W)
    (h : step T M (.tas t x') = some (v, M')) : Runs P (do pure (.value (← Instr.typeAssert (a.eval x) xt t false))) W γ M v M' := by
  simp only [step] at h
  have hvx := opd_ev hx hT
  split at h
  · rename_i u w e1
    obtain ⟨h1, h2⟩ := cond_some h
    cases h2
    have := Nat.eq_of_beq_eq_true h1
    subst this
    rw [e1] at hvx
    obtain ⟨cw, hc, hv⟩ := hvx.iface_inv
    rw [hc]
    refine Runs.v (cv := cw) ?_ hv hR
    unfold Instr.typeAssert
    rw [Sem.run_bind, run_underlying hd]
    cases d <;> first | (simp; done) | exact absurd rfl (hn _)
  · cases h

theorem natArg_spec {u : Value} {n : Nat} (h : natArg u = some n) : ∃ k, u = .int k (.ofNat n) := by
  unfold natArg at h
  split at h
  · cases h; exact ⟨_, rfl⟩
  · cases h
theorem natArg_VR {u c : Value} {n : Nat} (h : natArg u = some n) (hv : VR γ u c) : ∃ k, c = .int k (n : Int) := by
  obtain ⟨k, rfl⟩ := natArg_spec h
  exact ⟨k, hv.int⟩

theorem fld_runs {s : TypeId} {fs : Array Field} {f : Nat} {fl : Field} {n : Nat} (hu : P.underlying s = some (.struct fs)) (hf : fs[f]? = some fl) (hn : sizeT P fl.type = some (n + 1)) {x : Operand} {x' : Opd} (hx : opd x = some x')
    (hT : TR γ T a.tmps) (hR : Rel γ M W) (h : step T M (.fld fl.offset x') = some (v, M')) : Runs P (do pure (.value (← Instr.fieldAt s (a.eval x) f))) W γ M v M' := by
  simp only [step] at h
  have hv := opd_ev hx hT
  split at h
  · rename_i r o e
    rw [e] at hv
    cases h
    obtain ⟨g, hg, hc⟩ := hv.ptr_inv
    rw [hc]
    refine Runs.v (cv := .pointer (some ⟨g.blk, g.base + (o + fl.offset), none⟩)) ?_ (.ptr hg) hR
    simp [Instr.fieldAt, run_underlying hu, hf, Instr.sureAddr, fieldPlace, sizeT_run hn, Addr.add_mid, Nat.add_assoc]
  · cases h

theorem idxS_runs {t e : TypeId} {es : Nat} (hu : P.underlying t = some (.slice e)) (hs : sizeT P e = some es) {x i : Operand} {x' i' : Opd} (hx : opd x = some x') (hi : opd i = some i')
    (hT : TR γ T a.tmps) (hR : Rel γ M W) (h : step T M (.idxS es x' i') = some (v, M')) : Runs P (do pure (.value (← Instr.indexAt t (a.eval x) (a.eval i)))) W γ M v M' := by
  simp only [step] at h
  have hvx := opd_ev hx hT
  have hvi := opd_ev hi hT
  split at h
  · rename_i r o len c n e1 e2
    obtain ⟨h1, h2⟩ := cond_some h
    cases h2
    rw [blt_spec, decide_eq_true_iff] at h1
    obtain ⟨k, hk⟩ := natArg_VR e2 hvi
    rw [e1] at hvx
    obtain ⟨g, cap, hg, hc, _, _⟩ := hvx.slice_pos (by omega)
    rw [hc, hk]
    refine Runs.v (cv := .pointer (some ⟨g.blk, g.base + (o + n * es), none⟩)) ?_ (.ptr hg) hR
    simp [Instr.indexAt, asIntOf, run_underlying hu, sizeT_run hs, h1, Addr.add_mid, Nat.add_assoc]
  · rename_i r s n e1 e2
    obtain ⟨h1, h2⟩ := cond_some h
    cases h2
    rw [blt_spec, decide_eq_true_iff] at h1
    obtain ⟨k, hk⟩ := natArg_VR e2 hvi
    rw [e1] at hvx
    obtain ⟨g, len, cap, hg, hn, hcap, hc⟩ := hvx.symS_inv
    have h3 : n < len := by have := KOk.lo s (by omega); omega
    rw [hc, hk]
    refine Runs.v (cv := .pointer (some ⟨g.blk, g.base + (0 + n * es), none⟩)) ?_ (.ptr hg) hR
    simp [Instr.indexAt, asIntOf, run_underlying hu, sizeT_run hs, h3, Addr.add_mid]
  · cases h

theorem idxA_runs {t e : TypeId} {len es : Nat} (hu : P.underlying t = some (.array len e)) (hs : sizeT P e = some es) {x i : Operand} {x' i' : Opd} (hx : opd x = some x') (hi : opd i = some i')
    (hT : TR γ T a.tmps) (hR : Rel γ M W) (h : step T M (.idxA len es x' i') = some (v, M')) : Runs P (do pure (.value (← Instr.indexAt t (a.eval x) (a.eval i)))) W γ M v M' := by
  simp only [step] at h
  have hvx := opd_ev hx hT
  have hvi := opd_ev hi hT
  split at h
  · rename_i r o n e1 e2
    obtain ⟨h1, h2⟩ := cond_some h
    cases h2
    rw [blt_spec, decide_eq_true_iff] at h1
    obtain ⟨k, hk⟩ := natArg_VR e2 hvi
    rw [e1] at hvx
    obtain ⟨g, hg, hc⟩ := hvx.ptr_inv
    rw [hc, hk]
    refine Runs.v (cv := .pointer (some ⟨g.blk, g.base + (o + n * es), none⟩)) ?_ (.ptr hg) hR
    simp [Instr.indexAt, asIntOf, run_underlying hu, Instr.sureAddr, sizeT_run hs, h1, Addr.add_mid, Nat.add_assoc]
  · cases h

theorem chr_runs {t : TypeId} (hu : P.underlying t = some .string) {x i : Operand} {x' i' : Opd} (hx : opd x = some x') (hi : opd i = some i')
    (hT : TR γ T a.tmps) (hR : Rel γ M W) (h : step T M (.chr x' i') = some (v, M')) : Runs P (do pure (.value (← Instr.index t (a.eval x) (a.eval i)))) W γ M v M' := by
  simp only [step] at h
  have hvx := opd_ev hx hT
  have hvi := opd_ev hi hT
  split at h
  · rename_i s n e1 e2
    split at h
    · rename_i b hb
      cases h
      obtain ⟨k, hk⟩ := natArg_VR e2 hvi
      rw [e1] at hvx
      rw [hvx.string, hk]
      refine Runs.v (cv := .int .u8 (b.toNat : Int)) ?_ (.atom rfl) hR
      obtain ⟨hlt, hbe⟩ := List.getElem?_eq_some_iff.1 hb
      have hg : (ByteArray.mk (Array.mk s))[n]? = some b := by
        have hsz : n < (ByteArray.mk (Array.mk s)).size := hlt
        rw [ByteArray.getElem?_lt' _ _ hsz]
        exact congrArg some hbe
      simp [Instr.index, asIntOf, run_underlying hu, hg]
    · cases h
  · cases h

theorem lenS_runs {t ty : TypeId} (hu : P.underlying t = some .string) {x : Operand} {x' : Opd} (hx : opd x = some x') (hT : TR γ T a.tmps) (hR : Rel γ M W) (h : step T M (.len true x') = some (v, M')) :
    Runs P (do pure (.value (← Builtin.len_ #[t] ty #[a.eval x]))) W γ M v M' := by
  simp only [step] at h
  have hv := opd_ev hx hT
  split at h
  · rename_i e _; cases e
  · rename_i e _; cases e
  · rename_i s _ e
    cases h
    rw [e] at hv
    rw [hv.string]
    exact Runs.v (cv := .int .i64 (s.length : Int)) (run_len_string W t ty _ hu) (.atom rfl) hR
  · cases h
theorem lenL_runs {t ty e : TypeId} (hu : P.underlying t = some (.slice e)) {x : Operand} {x' : Opd} (hx : opd x = some x') (hT : TR γ T a.tmps) (hR : Rel γ M W) (h : step T M (.len false x') = some (v, M')) :
    Runs P (do pure (.value (← Builtin.len_ #[t] ty #[a.eval x]))) W γ M v M' := by
  simp only [step] at h
  have hv := opd_ev hx hT
  split at h
  · rename_i b n c _ e
    cases h
    rw [e] at hv
    obtain ⟨b', cap, hc⟩ := hv.sliceLen
    rw [hc]
    exact Runs.v (cv := .int .i64 (n : Int)) (by simp [Builtin.len_, run_underlying hu, goInt]) (.atom rfl) hR
  · rename_i r s _ e
    cases h
    rw [e] at hv
    obtain ⟨g, len, cap, hg, hn, hcap, hc⟩ := hv.symS_inv
    rw [hc]
    refine Runs.v (cv := .int .i64 (len : Int)) (by simp [Builtin.len_, run_underlying hu, goInt]) ?_ hR
    rw [← hn]
    exact .symI
  · rename_i e _; cases e
  · cases h

theorem ext_runs {i : Nat} {x : Operand} {x' : Opd} (hx : opd x = some x') (hT : TR γ T a.tmps) (hR : Rel γ M W) (h : step T M (.ext x' i) = some (v, M')) :
    Runs P (do pure (.value (← Instr.extract (a.eval x) i))) W γ M v M' := by
  simp only [step] at h
  have hv := opd_ev hx hT
  split at h
  · rename_i vs e
    split at h
    · rename_i u hu
      cases h
      rw [e] at hv
      obtain ⟨b, hb, hl⟩ := hv.tuple_inv
      obtain ⟨c, hc, hvc⟩ := hl.get i v hu
      rw [hb]
      refine Runs.v (cv := c) ?_ hvc hR
      have : b[i]? = some c := by simpa using hc
      simp [Instr.extract, this]
    · cases h
  · cases h

theorem fldv_runs {t : TypeId} {fs : Array Field} {f : Nat} {fl : Field} {ag : Bool} {n : Nat} (hu : P.underlying t = some (.struct fs)) (hf : fs[f]? = some fl) (ha : aggT P fl.type = some ag) (hn : sizeT P fl.type = some n)
    {x : Operand} {x' : Opd} (hx : opd x = some x') (hT : TR γ T a.tmps) (hR : Rel γ M W) (h : step T M (.fldv fl.offset (bif ag then some n else none) x') = some (v, M')) :
    Runs P (do pure (.value (← Instr.field t (a.eval x) f))) W γ M v M' := by
  simp only [step] at h
  have hv := opd_ev hx hT
  split at h
  · rename_i cs e
    rw [e] at hv
    obtain ⟨b, hb, hl⟩ := hv.agg_inv
    rw [hb]
    cases ag with
    | false =>
      simp only [cond_false] at h
      split at h
      · rename_i u hu'
        cases h
        obtain ⟨c, hc, hvc⟩ := hl.get _ v hu'
        refine Runs.v (cv := c) ?_ hvc hR
        have : b[fl.offset]? = some c := by simpa using hc
        simp [Instr.field, run_underlying hu, hf, asAgg, part, aggT_false ha, this]
      · cases h
    | true =>
      simp only [cond_true] at h
      obtain ⟨h1, h2⟩ := cond_some h
      cases h2
      rw [Nat.ble_eq] at h1
      obtain ⟨d, hd, hrow⟩ := aggT_true ha
      refine Runs.v (cv := .agg (b.extract fl.offset (fl.offset + n))) ?_ (VR.agg_list ?_) hR
      · have hagg : (isAgg fl.type).run P W = .ok true W := by
          unfold isAgg
          rw [Sem.run_bind, run_underlying hd W]
          cases d <;> simp_all
        simp [Instr.field, run_underlying hu, hf, asAgg, part, hagg, sizeT_run hn]
      · have : (b.extract fl.offset (fl.offset + n)).toList = (b.toList.drop fl.offset).take n := by
          rw [Array.toList_extract, List.extract_eq_take_drop, Nat.add_sub_cancel_left]
        rw [this]
        exact (hl.drop _).take _
  · cases h

theorem mx_runs {neg : Bool} {x y : Operand} {x' y' : Opd} (hx : opd x = some x') (hy : opd y = some y') (hT : TR γ T a.tmps) (h : step T M (.mx neg x' y') = some (v, M')) :
    M' = M ∧ ∃ k p q, a.eval x = .int k p ∧ a.eval y = .int k q ∧ v = .int k (if p < q then (bif neg then p else q) else (bif neg then q else p)) := by
  simp only [step] at h
  have hvx := opd_ev hx hT
  have hvy := opd_ev hy hT
  split at h
  · rename_i k p j q e1 e2
    obtain ⟨h1, h2⟩ := cond_some h
    cases h2
    have := keq_spec h1
    subst this
    rw [e1] at hvx
    rw [e2] at hvy
    refine ⟨rfl, k, p, q, hvx.int, hvy.int, ?_⟩
    rw [ilt_spec]
    by_cases hlt : p < q
    · simp [hlt]
    · simp [hlt]
  · cases h

theorem mkf_runs {f : FuncId} {xs ys : Array Operand} {xs' ys' : List Opd} (hx : opds xs.toList = some xs') (hy : opds ys.toList = some ys') (hT : TR γ T a.tmps) (hR : Rel γ M W)
    (h : step T M (.mkf (.func f) xs' ys') = some (v, M')) : Runs P (do pure (.value (← Instr.makeFunc (.func f) (xs.map a.eval) (ys.map a.eval)))) W γ M v M' := by
  simp only [step] at h
  cases h
  have l1 := opds_ev hx hT
  have l2 := opds_ev hy hT
  refine Runs.v (cv := .func (.func f) (xs.map a.eval) (ys.map a.eval)) rfl (.func ?_ ?_ ?_ ?_) hR
  · have := l1.length; simpa using this
  · intro i p q hp hq
    obtain ⟨z, hz, hv⟩ := l1.get i p (by simpa using hp)
    have : (xs.map a.eval)[i]? = some z := by simpa using hz
    rw [this] at hq; cases hq; exact hv
  · have := l2.length; simpa using this
  · intro i p q hp hq
    obtain ⟨z, hz, hv⟩ := l2.get i p (by simpa using hp)
    have : (ys.map a.eval)[i]? = some z := by simpa using hz
    rw [this] at hq; cases hq; exact hv

/- Slices of texts and rows -/
theorem optNat_bound {d : Nat} {x : Option Operand} {x' : Option Opd} {n : Nat} (hx : opdO x = some x') (hT : TR γ T a.tmps) (h : optNat T d x' = some n) :
    (x = none ∧ n = d) ∨ ∃ y k, x = some y ∧ a.eval y = .int k (n : Int) := by
  cases x with
  | none => cases hx; cases h; exact .inl ⟨rfl, rfl⟩
  | some y =>
    simp only [opdO] at hx
    split at hx
    · rename_i z hz
      cases hx
      obtain ⟨k, hk⟩ := natArg_VR h (opd_ev hz hT)
      exact .inr ⟨y, k, rfl, hk⟩
    · cases hx

theorem sliceBound_run (k : IntKind) (n y : Nat) (code : BoundsCode) (h : n ≤ y) : (Instr.sliceBound (.int k (n : Int)) y code).run P W = .ok n W := by
  rw [run_sliceBound W k n y code (by omega) (by omega)]; simp

theorem slS_runs {t : TypeId} (hu : P.underlying t = some .string) {x : Operand} {lo hi : Option Operand} {x' : Opd} {lo' hi' : Option Opd} (hx : opd x = some x') (hlo : opdO lo = some lo') (hhi : opdO hi = some hi')
    (hT : TR γ T a.tmps) (hR : Rel γ M W) (h : step T M (.slS x' lo' hi') = some (v, M')) : Runs P (do pure (.value (← Instr.sliceAt t (a.eval x) (lo.map a.eval) (hi.map a.eval) none))) W γ M v M' := by
  simp only [step] at h
  have hv := opd_ev hx hT
  split at h
  · rename_i s e
    split at h
    · rename_i n m e1 e2
      obtain ⟨h1, h2⟩ := cond_some h
      cases h2
      rw [Bool.and_eq_true, Nat.ble_eq, Nat.ble_eq] at h1
      rw [e] at hv
      rw [hv.string]
      refine Runs.v (cv := .string ((ByteArray.mk s.toArray).extract m n)) ?_ ?_ hR
      · have hsz : (ByteArray.mk (Array.mk s)).size = s.length := rfl
        rcases optNat_bound hhi hT e1 with ⟨rfl, rfl⟩ | ⟨y, k, rfl, hk⟩ <;> rcases optNat_bound hlo hT e2 with ⟨rfl, rfl⟩ | ⟨z, j, rfl, hj⟩ <;>
          (simp [Instr.sliceAt, Instr.slice, Instr.sliceBounds, run_underlying hu, sliceBound_run, *]; try (rw [ByteArray.extract_mk]; simp))
      · rw [ByteArray.extract_mk]
        exact .atom rfl
    · cases h
  · cases h

theorem bounds_run {len cap h l : Nat} {lo hi : Option Operand} {lo' hi' : Option Opd} (hlo : opdO lo = some lo') (hhi : opdO hi = some hi') (hT : TR γ T a.tmps)
    (e1 : optNat T len hi' = some h) (e2 : optNat T 0 lo' = some l) (h1 : h ≤ len) (h2 : l ≤ h) (h3 : len ≤ cap) :
    (Instr.sliceBounds true len cap (lo.map a.eval) (hi.map a.eval) none).run P W = .ok (l, h, cap) W := by
  rcases optNat_bound hhi hT e1 with ⟨rfl, rfl⟩ | ⟨y, k, rfl, hk⟩ <;> rcases optNat_bound hlo hT e2 with ⟨rfl, rfl⟩ | ⟨z, j, rfl, hj⟩
  · simp [Instr.sliceBounds]
  · simp [Instr.sliceBounds, hj, sliceBound_run j l h _ h2]
  · simp [Instr.sliceBounds, hk, sliceBound_run k h cap _ (by omega)]
  · simp [Instr.sliceBounds, hk, hj, sliceBound_run k h cap _ (by omega), sliceBound_run j l h _ h2]
theorem bounds3_run {len cap h l m : Nat} {lo : Option Operand} {hi mx : Operand} {lo' : Option Opd} {hi' mx' : Opd} (hlo : opdO lo = some lo') (hhi : opd hi = some hi') (hmx : opd mx = some mx') (hT : TR γ T a.tmps)
    (e1 : natArg (hi'.ev T) = some h) (e2 : optNat T 0 lo' = some l) (e3 : natArg (mx'.ev T) = some m) (h2 : l ≤ h) (h3 : h ≤ m) (h4 : m ≤ cap) :
    (Instr.sliceBounds true len cap (lo.map a.eval) (some (a.eval hi)) (some (a.eval mx))).run P W = .ok (l, h, m) W := by
  obtain ⟨k, hk⟩ := natArg_VR e1 (opd_ev hhi hT)
  obtain ⟨i, hi⟩ := natArg_VR e3 (opd_ev hmx hT)
  rcases optNat_bound hlo hT e2 with ⟨rfl, rfl⟩ | ⟨z, j, rfl, hj⟩
  · simp [Instr.sliceBounds, hk, hi, sliceBound_run i m cap _ h4, sliceBound_run k h m _ h3]
  · simp [Instr.sliceBounds, hk, hi, hj, sliceBound_run i m cap _ h4, sliceBound_run k h m _ h3, sliceBound_run j l h _ h2]

theorem cut_VR {r o l h m cap es : Nat} {g : G} (hg : γ r = some g) (hes : g.es = es) (h1 : l ≤ h) (h2 : h ≤ m) (h3 : m ≤ cap) (hr : o + cap * g.es ≤ g.room) :
    VR γ (.slice (some ⟨r, o + l * es, none⟩) (h - l) 0) (.slice (if m = l then some ⟨g.blk, g.base + o, none⟩ else (some (⟨g.blk, g.base + o, none⟩ : Addr)).map (·.add (l * es))) (h - l) (m - l)) := by
  by_cases e : m = l
  · have e1 : h - l = 0 := by omega
    have e2 : m - l = 0 := by omega
    rw [if_pos e, e1, e2]
    exact .sliceE hg
  · rw [if_neg e, Option.map_some, Addr.add_mid, Nat.add_assoc]
    refine .slice hg (by omega) ?_
    subst hes
    have : o + l * g.es + (m - l) * g.es = o + m * g.es := by
      rw [Nat.add_assoc, ← Nat.add_mul]
      congr 2
      omega
    rw [this]
    exact Nat.le_trans (Nat.add_le_add_left (Nat.mul_le_mul_right _ h3) _) hr

theorem sl_runs {t e : TypeId} {es : Nat} (hu : P.underlying t = some (.slice e)) (hs : sizeT P e = some es) {x : Operand} {lo hi : Option Operand} {x' : Opd} {lo' hi' : Option Opd} (hx : opd x = some x') (hlo : opdO lo = some lo')
    (hhi : opdO hi = some hi') (hT : TR γ T a.tmps) (hR : Rel γ M W) (h : step T M (.sl es x' lo' hi' none) = some (v, M')) :
    Runs P (do pure (.value (← Instr.sliceAt t (a.eval x) (lo.map a.eval) (hi.map a.eval) none))) W γ M v M' := by
  simp only [step] at h
  have hv := opd_ev hx hT
  split at h
  · rename_i r o len c e0
    split at h
    · rename_i n l e1 e2
      obtain ⟨h1, h2⟩ := cond_some h
      cases h2
      simp only [Bool.and_eq_true, Nat.ble_eq] at h1
      obtain ⟨⟨h1, h2⟩, h3⟩ := h1
      rw [e0] at hv
      obtain ⟨g, hg, hc⟩ := hv.slice_inv
      have hes : g.es = es := by
        obtain ⟨ob, k1, k2⟩ := hR.obj r g hg
        unfold esOk at h3
        rw [k1] at h3
        cases ob with
        | arr ar => exact k2.1.symm.trans (Nat.eq_of_beq_eq_true h3)
        | map _ _ => cases h3
        | miter _ _ _ _ => cases h3
        | zer _ _ => cases h3
      rcases hc with ⟨cap, hc, hle, hroom⟩ | ⟨hz, b, hc⟩
      · rw [hc]
        refine Runs.v ?_ (cut_VR (m := cap) hg hes h2 (Nat.le_trans h1 hle) (Nat.le_refl _) hroom) hR
        simp only [Instr.sliceAt, Instr.slice, Sem.run_bind, run_underlying hu, Result.andThen_ok, bounds_run hlo hhi hT e1 e2 h1 h2 hle, sizeT_run hs, Sem.run_pure]
      · subst hz
        obtain rfl : n = 0 := by omega
        obtain rfl : l = 0 := by omega
        rw [hc]
        refine Runs.v (cv := .slice (some b) 0 0) ?_ (.sliceE hg) hR
        simp only [Instr.sliceAt, Instr.slice, Sem.run_bind, run_underlying hu, Result.andThen_ok, bounds_run hlo hhi hT e1 e2 h1 h2 (Nat.le_refl 0), sizeT_run hs, Sem.run_pure]
        rfl
    · cases h
  · rename_i c e0
    split at h
    · rename_i e1 e2 _
      cases h
      rw [e0] at hv
      obtain ⟨_, _, hc⟩ := hv.sliceNil
      rw [hc]
      refine Runs.v (cv := .slice none 0 0) ?_ (.atom rfl) hR
      simp only [Instr.sliceAt, Instr.slice, Sem.run_bind, run_underlying hu, Result.andThen_ok, bounds_run hlo hhi hT e1 e2 (Nat.le_refl 0) (Nat.le_refl 0) (Nat.le_refl 0), sizeT_run hs, Sem.run_pure]
      rfl
    · cases h
  · cases h

theorem sl3_runs {t e : TypeId} {es : Nat} (hu : P.underlying t = some (.slice e)) (hs : sizeT P e = some es) {x hi mx : Operand} {lo : Option Operand} {x' hi' mx' : Opd} {lo' : Option Opd} (hx : opd x = some x') (hlo : opdO lo = some lo')
    (hhi : opd hi = some hi') (hmx : opd mx = some mx') (hT : TR γ T a.tmps) (hR : Rel γ M W) (h : step T M (.sl es x' lo' (some hi') (some mx')) = some (v, M')) :
    Runs P (do pure (.value (← Instr.sliceAt t (a.eval x) (lo.map a.eval) (some (a.eval hi)) (some (a.eval mx))))) W γ M v M' := by
  simp only [step] at h
  have hv := opd_ev hx hT
  split at h
  · rename_i r o len c e0
    split at h
    · rename_i n l e1 e2
      obtain ⟨h1, h2⟩ := cond_opt h
      simp only [Bool.and_eq_true, Nat.ble_eq] at h1
      obtain ⟨⟨h1, h4⟩, h3⟩ := h1
      split at h2
      · rename_i m e3
        obtain ⟨h5, h6⟩ := cond_some h2
        cases h6
        simp only [Bool.and_eq_true, Nat.ble_eq] at h5
        obtain ⟨h5, h6⟩ := h5
        rw [e0] at hv
        obtain ⟨g, hg, hc⟩ := hv.slice_inv
        have hes : g.es = es := by
          obtain ⟨ob, k1, k2⟩ := hR.obj r g hg
          unfold esOk at h3
          rw [k1] at h3
          cases ob with
          | arr ar => exact k2.1.symm.trans (Nat.eq_of_beq_eq_true h3)
          | map _ _ => cases h3
          | miter _ _ _ _ => cases h3
          | zer _ _ => cases h3
        rcases hc with ⟨cap, hc, hle, hroom⟩ | ⟨hz, b, hc⟩
        · rw [hc]
          refine Runs.v ?_ (cut_VR (m := m) hg hes h4 h5 (Nat.le_trans h6 hle) hroom) hR
          simp only [Instr.sliceAt, Instr.slice, Sem.run_bind, run_underlying hu, Result.andThen_ok, bounds3_run (len := len) hlo hhi hmx hT e1 e2 e3 h4 h5 (Nat.le_trans h6 hle), sizeT_run hs, Sem.run_pure]
        · subst hz
          obtain rfl : m = 0 := by omega
          obtain rfl : n = 0 := by omega
          obtain rfl : l = 0 := by omega
          rw [hc]
          refine Runs.v (cv := .slice (some b) 0 0) ?_ (.sliceE hg) hR
          simp only [Instr.sliceAt, Instr.slice, Sem.run_bind, run_underlying hu, Result.andThen_ok, bounds3_run (len := 0) hlo hhi hmx hT e1 e2 e3 h4 h5 (Nat.le_refl 0), sizeT_run hs, Sem.run_pure]
          rfl
      · cases h2
    · cases h
  · rename_i c e0
    split at h
    · rename_i _ _ hh
      cases hh
    · cases h
  · cases h
end Go.Ai
