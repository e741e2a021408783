/-
  machine.Run told.
-/
import Derived.Test.YtclmkcmpfkmbpaaGreatDoorAi26
set_option maxRecDepth 100000
set_option linter.unusedSectionVars false
namespace Go.Ai
open Go Go.Proofs

/-- A sequence's part, and what stands behind so many. -/
def nth : Nat → IC → IC
  | 0, c => hd c
  | k + 1, c => nth k (tl c)
def drp : Nat → IC → IC
  | 0, c => c
  | k + 1, c => drp k (tl c)
theorem body7 : ir7.body = .seq (nth 0 ir7.body) (.seq (nth 1 ir7.body) (.seq (nth 2 ir7.body) (.seq (nth 3 ir7.body) (.seq (nth 4 ir7.body) (.seq (nth 5 ir7.body) (.seq (nth 6 ir7.body) (.seq (nth 7 ir7.body) (.seq (nth 8 ir7.body) (.seq (nth 9 ir7.body) (.seq (nth 10 ir7.body) (.seq (nth 11 ir7.body) (drp 12 ir7.body)))))))))))) := by kernel_rfl
def l711 : List Itm := match nth 11 ir7.body with
  | .ops l => l
  | _ => []
theorem l711_is : nth 11 ir7.body = .ops l711 := by kernel_rfl
theorem l711_keeps : (l711.all fun o => o.dst != some 4 && o.dst != some 5) = true := by kernel_rfl
theorem l711_keep : ∀ o ∈ l711, o.dst ≠ some 4 ∧ o.dst ≠ some 5 := by
  intro o ho
  have := List.all_eq_true.1 l711_keeps o ho
  simpa using this

def o76a : Oper := { dst := some 58, op := Op.makeFunc (Fn.func 27) #[] #[Operand.tmp 10, Operand.tmp 5, Operand.tmp 4], type := 1, pos := "machine.go:338", after := #[], guard := none }
def o76b : Oper := { dst := none, op := Op.defer { callee := Callee.value (Operand.tmp 58), args := #[], argTypes := #[] }, type := 0, pos := "machine.go:338", after := #[{ on := 0, ground := Ground.data }], guard := none }
theorem reg76 : Tryz.f7.body.map (fun c => chd (ctl (ctl (ctl (ctl (ctl c)))))) = some (.region 6 #[o76a, o76b] false) := by kernel_rfl
theorem fn7 : Tryz.prog.funcs[7]? = some Tryz.f7 := by kernel_rfl
theorem res7 : Tryz.f7.results.toList = [.cell 4 42, .cell 5 44] := by kernel_rfl
theorem f7_nt : Tryz.f7.ntmps = 127 := by kernel_rfl

def bindN (r : R) (k : PM Value → Mem → RC) : RC :=
  match r with
  | .nrm T M => k T M
  | _ => .bad
def bindP [Know] (fn : IF) (r : R) (k : PM Value → Mem → RC) : RC :=
  match r with
  | .nrm T M => k T M
  | .ret T M => leave fn T M
  | _ => .bad
section
variable [Know]
/-- Behind the closure's run. -/
def fin7 (N : Nat) (A : List Value) (r : Value) (T : PM Value) (M : Mem) : RC :=
  match run27 N A r M with
  | some M' => leave ir7 T M'
  | none => .bad
def tail7 (N : Nat) (A : List Value) (T : PM Value) (M : Mem) : RC :=
  match runOps (callW (exec tab N) tab) l711 T M with
  | .nrm T2 M2 => match exec tab N (drp 12 ir7.body) T2 M2 with
    | .ret T3 M3 => fin7 N A .nilIface T3 M3
    | _ => .bad
  | .pan v M2 => fin7 N A v T M2
  | _ => .bad
def rest7 (N : Nat) (A : List Value) (T : PM Value) (M : Mem) : RC :=
  bindN (exec tab N (nth 6 ir7.body) T M) fun T M => bindN (exec tab N (nth 7 ir7.body) T M) fun T M => bindN (exec tab N (nth 8 ir7.body) T M) fun T M =>
  bindN (exec tab N (nth 9 ir7.body) T M) fun T M => bindN (exec tab N (nth 10 ir7.body) T M) (tail7 N A)
def defer7 (N : Nat) (T : PM Value) (M : Mem) : RC :=
  rest7 N [tval T 10, tval T 5, tval T 4] (put T (some 58) (.func (.func 27) #[] ⟨[tval T 10, tval T 5, tval T 4]⟩)) M
def run7 (N : Nat) (T : PM Value) (M : Mem) : RC :=
  bindN (exec tab N (nth 0 ir7.body) T M) fun T M => bindN (exec tab N (nth 1 ir7.body) T M) fun T M => bindN (exec tab N (nth 2 ir7.body) T M) fun T M =>
  bindP ir7 (exec tab N (nth 3 ir7.body) T M) fun T M => bindN (exec tab N (nth 4 ir7.body) T M) (defer7 N)
def g7 (N : Nat) (args : List Value) (M : Mem) : RC := bif Nat.ble args.length ir7.ntmps then run7 N (initT args) M else .bad
end

theorem invoke27 (cap : Array Value) (w : World) : (invoke (.fn (.func 27) cap) #[]).run Tryz.prog w = .ok (.enter 27 cap) w := by
  have h1 : Tryz.prog.funcs[27]? = some Tryz.f27 := fn27
  have h2 : (Tryz.f27.name == "runtime.NumGoroutine") = false := by kernel_rfl
  obtain ⟨b, hb⟩ := Option.isSome_iff_exists.1 (show Tryz.f27.body.isSome = true by kernel_rfl)
  have h3 : ¬ Tryz.f27.name = "runtime.NumGoroutine" := by simpa using h2
  simp [invoke, callFunc, h1, h3, hb]

variable [Sig] [Know] [KOk]
section
variable {P : Program} {D : List Deferred} {nt : Nat}
theorem seqN {x y : Code} {f : PM Value → Mem → R} {func : Func} {γ0 : Gm} {M0 : Mem} {W0 : World} (hx : Pc P D nt x f) {T : PM Value} {M : Mem} {a : Act} {γ : Gm} {W : World} (hd : a.defers = D) (hs : a.tmps.size = nt) (hT : TR γ T a.tmps) (hR : Rel γ M W)
    {k : PM Value → Mem → RC} (hb : bindN (f T M) k ≠ .bad) (hy : ∀ T1 M1 a1 γ1 W1, a1.defers = D → a1.tmps.size = nt → TR γ1 T1 a1.tmps → Rel γ1 M1 W1 → Ext γ M W γ1 M1 W1 → k T1 M1 ≠ .bad → y.wp P (bodyPostD P func (Called γ0 M0 W0 (k T1 M1))) a1 W1) :
    (Code.seq x y).wp P (bodyPostD P func (Called γ0 M0 W0 (bindN (f T M) k))) a W := by
  cases hf : f T M with
  | nrm T1 M1 =>
    rw [hf] at hb
    refine wp_seq (Code.wp_mono (fun e a' w' he => ?_) (hx T M a γ W hd hs hT hR (by rw [hf]; intro e; cases e)))
    rw [hf] at he
    obtain ⟨rfl, h3, h4, γ', h5, h6, h7⟩ := he.nrm
    exact hy T1 M1 a' γ' w' h3 h4 h5 h6 h7 hb
  | bad => rw [hf] at hb; exact absurd rfl hb
  | ext i T1 M1 => rw [hf] at hb; exact absurd rfl hb
  | got i T1 M1 => rw [hf] at hb; exact absurd rfl hb
  | ret T1 M1 => rw [hf] at hb; exact absurd rfl hb
  | pan v M1 => rw [hf] at hb; exact absurd rfl hb
theorem seqP {x y : Code} {f : PM Value → Mem → R} {func : Func} {fn : IF} (hr : resO P func.ntmps func.results.toList = some fn.results) {γ0 : Gm} {M0 : Mem} {W0 : World} (hx : Pc P [] nt x f) {T : PM Value} {M : Mem} {a : Act} {γ : Gm} {W : World} (hd : a.defers = []) (hs : a.tmps.size = nt) (hT : TR γ T a.tmps) (hR : Rel γ M W)
    (hE : Ext γ0 M0 W0 γ M W)
    {k : PM Value → Mem → RC} (hb : bindP fn (f T M) k ≠ .bad) (hy : ∀ T1 M1 a1 γ1 W1, a1.defers = [] → a1.tmps.size = nt → TR γ1 T1 a1.tmps → Rel γ1 M1 W1 → Ext γ M W γ1 M1 W1 → k T1 M1 ≠ .bad → y.wp P (bodyPostD P func (Called γ0 M0 W0 (k T1 M1))) a1 W1) :
    (Code.seq x y).wp P (bodyPostD P func (Called γ0 M0 W0 (bindP fn (f T M) k))) a W := by
  cases hf : f T M with
  | nrm T1 M1 =>
    rw [hf] at hb
    refine wp_seq (Code.wp_mono (fun e a' w' he => ?_) (hx T M a γ W hd hs hT hR (by rw [hf]; intro e; cases e)))
    rw [hf] at he
    obtain ⟨rfl, h3, h4, γ', h5, h6, h7⟩ := he.nrm
    exact hy T1 M1 a' γ' w' h3 h4 h5 h6 h7 hb
  | ret T1 M1 =>
    rw [hf] at hb
    refine wp_seq (Code.wp_mono (fun e a' w' he => ?_) (hx T M a γ W hd hs hT hR (by rw [hf]; intro e; cases e)))
    rw [hf] at he
    have hne : e ≠ .normal := he.ne (fun _ _ e => by cases e)
    refine then_of hne ?_
    cases e <;> first | exact he.elim | skip
    obtain ⟨h3, h4, γ', h5, h6, h7⟩ := he
    show Leaves P func a'.tmps _ a'.defers .returning w'
    rw [h3]
    exact leave_ok hr h5 h6 (hE.trans h7) hb
  | bad => rw [hf] at hb; exact absurd rfl hb
  | ext i T1 M1 => rw [hf] at hb; exact absurd rfl hb
  | got i T1 M1 => rw [hf] at hb; exact absurd rfl hb
  | pan v M1 => rw [hf] at hb; exact absurd rfl hb
end

/-- The results hang on two slots. -/
theorem results7 {t1 t2 : Array Value} (h4 : t1.getD 4 undef = t2.getD 4 undef) (h5 : t1.getD 5 undef = t2.getD 5 undef) : Go.results Tryz.f7 t1 = Go.results Tryz.f7 t2 := by
  have e : ∀ t, Go.results Tryz.f7 t = (do let vs ← Tryz.f7.results.mapM (resF t); pure (if h : vs.size = 1 then vs[0] else .tuple vs)) := fun _ => rfl
  rw [e, e, Array.mapM_eq_mapM_toList, Array.mapM_eq_mapM_toList, res7]
  have c4 : resF t1 (.cell 4 42) = resF t2 (.cell 4 42) := by
    show (do loadVar 42 (← asAddr (t1.getD 4 undef)) : Sem Value) = (do loadVar 42 (← asAddr (t2.getD 4 undef)) : Sem Value)
    rw [h4]
  have c5 : resF t1 (.cell 5 44) = resF t2 (.cell 5 44) := by
    show (do loadVar 44 (← asAddr (t1.getD 5 undef)) : Sem Value) = (do loadVar 44 (← asAddr (t2.getD 5 undef)) : Sem Value)
    rw [h5]
  simp only [List.mapM_cons, List.mapM_nil, c4, c5]

def dfr (cap : Array Value) : Deferred := { target := .fn (.func 27) cap, args := #[] }
/-- What a region that puts the closure aside does. -/
theorem reg76_wp {Q : Exit → Act → World → Prop} {a : Act} {w : World} (hd : a.defers = []) (hs : a.tmps.size = 127)
    (h : Q .normal { a.put (some 58) (.func (.func 27) #[] #[a.tmps.getD 10 undef, a.tmps.getD 5 undef, a.tmps.getD 4 undef]) with defers := [dfr #[a.tmps.getD 10 undef, a.tmps.getD 5 undef, a.tmps.getD 4 undef]] } w) :
    (Code.region 6 #[o76a, o76b] false).wp Tryz.prog Q a w := by
  refine wp_region_list ?_
  show wpList Tryz.prog _ Q [o76a, o76b] a w
  unfold wpList
  rw [wanted_none (o := o76a) rfl, if_pos rfl]
  refine .inl ?_
  have e1 : (execOp a.eval o76a).run Tryz.prog w = .ok (.value (.func (.func 27) #[] #[a.tmps.getD 10 undef, a.tmps.getD 5 undef, a.tmps.getD 4 undef])) w := by
    show (do pure (.value (← Instr.makeFunc (.func 27) ((#[] : Array Operand).map a.eval) ((#[Operand.tmp 10, Operand.tmp 5, Operand.tmp 4] : Array Operand).map a.eval))) : Sem Next).run Tryz.prog w = _
    have e : ∀ k, a.eval (.tmp k) = a.tmps.getD k undef := fun _ => rfl
    simp [Instr.makeFunc, e]
  unfold Oper.wp
  rw [e1, Oper.upon_value]
  unfold wpList
  rw [wanted_none (o := o76b) rfl, if_pos rfl]
  refine .inl ?_
  have hev : (a.put o76a.dst (.func (.func 27) #[] #[a.tmps.getD 10 undef, a.tmps.getD 5 undef, a.tmps.getD 4 undef])).eval (.tmp 58) = .func (.func 27) #[] #[a.tmps.getD 10 undef, a.tmps.getD 5 undef, a.tmps.getD 4 undef] := by
    show (a.tmps.setIfInBounds 58 _).getD 58 undef = _
    simp [Array.getD_eq_getD_getElem?, hs]
  have e2 : (execOp (a.put o76a.dst (.func (.func 27) #[] #[a.tmps.getD 10 undef, a.tmps.getD 5 undef, a.tmps.getD 4 undef])).eval o76b).run Tryz.prog w = .ok (.defer (dfr #[a.tmps.getD 10 undef, a.tmps.getD 5 undef, a.tmps.getD 4 undef])) w := by
    show (do pure (.defer (← Deferred.ofValue ((a.put o76a.dst (.func (.func 27) #[] #[a.tmps.getD 10 undef, a.tmps.getD 5 undef, a.tmps.getD 4 undef])).eval (.tmp 58)) ((#[] : Array Operand).map (Act.eval _)))) : Sem Next).run Tryz.prog w = _
    rw [hev]
    simp [Deferred.ofValue, dfr]
  unfold Oper.wp
  rw [e2, Oper.upon_defer]
  unfold wpList
  have : (a.put o76a.dst (.func (.func 27) #[] #[a.tmps.getD 10 undef, a.tmps.getD 5 undef, a.tmps.getD 4 undef])).defers = [] := hd
  rw [this]
  exact h
end Go.Ai
