/-
  The contract of MachineArgs, and its row's step.
-/
import Derived.Test.YtclmkcmpfkmbpaaGreatDoorAi38
import Derived.Test.YtclmkcmpfkmbpaaGreatDoorAi39
import Derived.WalkKit
import Derived.WideKeyPair
import Derived.WideKeyArr2
namespace Go.Proofs.YtclmkcmpfkmbpaaGreatDoor
namespace MArgs
open Go.ChangeShapes Go.WideShapes Go.ChangeAt Go.RowKit Go.WideMaps

theorem own : ownKnob Tryz.prog.godebug = none := by kernel_rfl
theorem arr22 : ArrKey Tryz.prog 22 3 4 := ⟨Tryz.underlying22, by kernel_rfl, by kernel_rfl, by kernel_rfl⟩

section
variable {H : Type} {enc : TypeId × Value → H} {P : Program} {k e : TypeId} {q : IntKind} {W : World} {base : Nat} {sp : Nat → Bool} {held : Bool}
/-- An array of four numbers, opened. -/
theorem open_four (A : ArrKey P k e 4) (he : P.underlying e = some (.int q)) {r : Reach} {b0 : Nat} {v : Value} {d : DataW H} {ps : List MemPlace} (hval : Value.okWide P W r b0 k v) (hd : DataW.Trod enc P W base sp held k v d ps) :
    ∃ a b c f : Int, v = .agg #[.int q a, .int q b, .int q c, .int q f] ∧ d = .agg [.lit (.int q a), .lit (.int q b), .lit (.int q c), .lit (.int q f)] ∧ ps = [] ∧ (Lit.int q a).wf = true ∧ (Lit.int q b).wf = true ∧ (Lit.int q c).wf = true ∧ (Lit.int q f).wf = true := by
  obtain ⟨xs0, rfl, hn⟩ := okWide_arr A hval
  obtain ⟨l⟩ := xs0
  match l, hn with
  | [c0, c1, c2, c3], _ =>
    obtain ⟨fuel, hf⟩ := hd
    cases fuel with
    | zero => simp [DataW.trod] at hf
    | succ n =>
      rw [DataW.trod_step] at hf
      unfold DataW.trodStep at hf
      simp only [A.hu, Value.cells] at hf
      rw [if_pos (by rw [A.size]; rfl)] at hf
      simp only [Option.map_eq_some_iff] at hf
      obtain ⟨xs, hx, e1⟩ := hf
      rw [show List.range 4 = [0, 1, 2, 3] from rfl, List.mapM_cons, List.mapM_cons, List.mapM_cons, List.mapM_cons, List.mapM_nil] at hx
      simp only [bind, Option.bind_eq_some_iff, pure, Option.some.injEq, A.one] at hx
      obtain ⟨y0, h0, _, ⟨y1, h1, _, ⟨y2, h2, _, ⟨y3, h3, _, rfl, rfl⟩, rfl⟩, rfl⟩, rfl⟩ := hx
      obtain ⟨a, ea, rfl, wa⟩ := DataW.trod_int he h0
      obtain ⟨b, eb, rfl, wb⟩ := DataW.trod_int he h1
      obtain ⟨c, ec, rfl, wc⟩ := DataW.trod_int he h2
      obtain ⟨f, ef, rfl, wf⟩ := DataW.trod_int he h3
      simp at ea eb ec ef
      subst ea; subst eb; subst ec; subst ef
      simp only [Prod.mk.injEq] at e1
      exact ⟨a, b, c, f, rfl, by rw [← e1.1]; rfl, by rw [← e1.2]; rfl, wa, wb, wc, wf⟩
theorem shut_four (A : ArrKey P k e 4) (he : P.underlying e = some (.int q)) {a b c f : Int} (wa : (Lit.int q a).wf = true) (wb : (Lit.int q b).wf = true) (wc : (Lit.int q c).wf = true) (wf : (Lit.int q f).wf = true) :
    DataW.Trod enc P W base sp held k (.agg #[.int q a, .int q b, .int q c, .int q f]) (.agg [.lit (.int q a), .lit (.int q b), .lit (.int q c), .lit (.int q f)]) [] :=
  ⟨2, by
    show DataW.trod enc P W base sp held (1 + 1) k [.int q a, .int q b, .int q c, .int q f] = _
    rw [DataW.trod_step]
    unfold DataW.trodStep
    simp only [A.hu]
    rw [if_pos (by rw [A.size]; rfl), show List.range 4 = [0, 1, 2, 3] from rfl, List.mapM_cons, List.mapM_cons, List.mapM_cons, List.mapM_cons, List.mapM_nil]
    simp [A.one, DataW.trod, he, wa, wb, wc, wf]⟩
end

set_option maxRecDepth 100000 in
/-- What the law gives, for every argument and every world. -/
theorem contract (H : Type) (enc : TypeId × Value → H) (W : World) (base : Nat) (args : Array Value) (ds gs : List (DataW H)) (before : List MemPlace)
    (hval : ∀ (j : Nat) t v, Tryz.f3.params[j]? = some t → args[j]? = some v → Value.okWide Tryz.prog W .any base t v)
    (hW : DataW.Whole enc Tryz.prog Tryz.f3.params.toList Rows.machineArgsSpec.vars false W args.toList ds gs before) :
    Calls Tryz.prog 3 args W fun e W' => ∃ v, e = .returned v ∧ Rows.machineArgsSpec.post enc Tryz.prog Tryz.f3 false true false false W args v W' := by
  have hW' := hW
  obtain ⟨p, q, hA0, hV, rfl, hfz, hnd⟩ := hW
  have hA : DataW.TrodAll enc Tryz.prog W 0 (fun _ => true) true Tryz.f3.params.toList args.toList ds p := hA0
  rw [Tryz.params3] at hA hval
  obtain ⟨v0, vs0, d0, ds0, p0, q0, hargs, rfl, rfl, h0, r0⟩ := trodAll_cons hA
  obtain ⟨rfl, rfl, rfl⟩ := trodAll_nil r0
  obtain rfl : args = #[v0] := by cases args; simp_all
  obtain ⟨rfl, rfl⟩ := trodVars_none hV
  obtain ⟨a, b, c, f, rfl, rfl, rfl, wa, wb, wc, wf⟩ := open_four arr22 Tryz.underlying3 (hval 0 22 v0 rfl rfl) h0
  clear hA0
  simp only [List.append_nil] at hW'
  have walk := Go.Ai.law_calls a b c f (bounds_i64 wa) (bounds_i64 wb) (bounds_i64 wc) (bounds_i64 wf) W
  refine walk.mono fun e W' ⟨he, hg⟩ => ?_
  subst he
  exact ⟨_, rfl, post_of_same (pa := []) (pv := []) hW' (fun _ _ _ => trodAll_cons_mk (shut_bool Tryz.underlying4 _) trodAll_mk0) (fun _ _ => trodAll_cons_mk (shut_four arr22 Tryz.underlying3 wa wb wc wf) trodAll_mk0) (fun _ _ => rfl) rfl
    (hg.frame _) hg.2.1 (ok_one (by kernel_rfl) rfl (okWide_bool_mk Tryz.underlying4 _))⟩

set_option maxRecDepth 100000 in
theorem lifted (os : Os) (started : os.Started) (H : Type) (enc : TypeId × Value → H) (F : Stop.Interp) :
    ReturnsInHanded {} Tryz.checked os 3 .any ((OpenSpec.ofChange Rows.machineArgsSpec).preRow enc Tryz.prog Tryz.f3 Rows.machineArgsRow.domain false Rows.machineArgsRow.laid) (((OpenSpec.ofChange Rows.machineArgsSpec).at F).post enc Tryz.prog Tryz.f3 false true false false) := by
  obtain ⟨places, hx⟩ := reads os enc
  refine returnsInHanded_of_row (C := Tryz.checked) (s := OpenSpec.ofChange Rows.machineArgsSpec) own started (by kernel_rfl) Tryz.func3
    (witness_row_at (enc := enc) (C := Tryz.checked) false (laidWorld os) #[nought4] rfl (by kernel_rfl) (by kernel_rfl) (by kernel_rfl)
      (OpenSpec.preRow_of_cond 8 hx (by kernel_rfl) (fun k hk => by cases hk) (by kernel_rfl) (laid_met os))) ?_
  intro W base args ds gs before hval hW _ _ _ hL _ _
  exact contract H enc W base args ds gs before hval hW

end MArgs
end Go.Proofs.YtclmkcmpfkmbpaaGreatDoor
