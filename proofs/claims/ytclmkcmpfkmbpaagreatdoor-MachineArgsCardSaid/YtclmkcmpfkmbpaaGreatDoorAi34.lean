/-
  The example of the chapter told; the law's first pieces.
-/
import Derived.Test.YtclmkcmpfkmbpaaGreatDoorAi33
set_option maxRecDepth 100000
set_option linter.unusedSectionVars false
namespace Go.Ai
open Go Go.Proofs

def isNil : List Value → Bool
  | [] => true
  | _ => false
/-- A call that is given nothing and answers true. -/
def gTrue (args : List Value) (M : Mem) : RC := bif isNil args then .ret (.bool true) M else .bad

section
variable [Sig] [Know] [KOk]
theorem Rel.frame {γ : Gm} {M : Mem} {W w : World} (hR : Rel γ M W) (hsz : W.heap.size ≤ w.heap.size) (hf : ∀ b, b < W.heap.size → w.heap[b]? = W.heap[b]?) : Rel γ M w :=
  ⟨fun r g h => ⟨(hR.dom r g h).1, Nat.lt_of_lt_of_le (hR.dom r g h).2 hsz⟩, fun r g h => let ⟨o, h1, h2⟩ := hR.obj r g h; ⟨o, h1, h2.keep (Le.refl γ) (fun _ _ hv => hv) (hf _ (hR.dom r g h).2)⟩, hR.alone, hR.svle⟩
theorem rel_empty (W : World) : Rel (fun _ => none) Mem.empty W :=
  ⟨(fun _ _ h => by cases h), (fun _ _ h => by cases h), (fun _ _ _ _ h => by cases h), (fun _ _ h => by cases h)⟩
theorem ov_closed {P : Program} {f : FuncId} {g : List Value → Mem → RC} (h : OvOk P f g) (hg : isTrue (g [] Mem.empty) = true) : OvOk P f gTrue := by
  intro args M γ W vs hR hL hb
  cases args with
  | cons a l => exact absurd rfl hb
  | nil =>
    obtain ⟨M', hM⟩ := isTrue_ret hg
    have hvs : LR (fun _ => none) [] vs.toList := by
      have := hL.length
      cases hv : vs.toList with
      | nil => trivial
      | cons a l => rw [hv] at this; cases this
    have hc := h [] Mem.empty (fun _ => none) W vs (rel_empty W) hvs (by rw [hM]; intro e; cases e)
    rw [hM] at hc
    refine hc.mono fun e w he => ?_
    cases e <;> first | exact he.elim | skip
    obtain ⟨γ', k1, k2, k3⟩ := he
    have hf : ∀ b, b < W.heap.size → w.heap[b]? = W.heap[b]? := fun b hb => k3.frame b hb (fun r g h => by cases h)
    refine ⟨γ, ?_, hR.frame k3.size hf, ⟨Le.refl γ, fun _ _ h h' => some_none h h', Nat.le_refl _, fun _ _ _ => rfl, k3.size, fun b hb _ => hf b hb, k3.tape, k3.os, k3.output, k3.froz⟩⟩
    rw [k1.atom_eq rfl]
    exact .atom rfl
end

theorem body4 : ir4.body = .seq (nth 0 ir4.body) (.seq (nth 1 ir4.body) (.seq (nth 2 ir4.body) (drp 3 ir4.body))) := by kernel_rfl
def k4 (T : PM Value) (M : Mem) : R := bindR (pre4 T M) post4

theorem bindR_assoc (r : R) (f g : PM Value → Mem → R) : bindR (bindR r f) g = bindR r fun T M => bindR (f T M) g := by cases r <;> rfl
theorem bindR_nrm (T : PM Value) (M : Mem) (k : PM Value → Mem → R) : bindR (.nrm T M) k = k T M := rfl
theorem any_has {x : Inp} (h : cAny.has x) : cAny.has x := h

section
variable {c : Cls} {x : Inp} (hx : cAny.has x) (h : c.has x)
include hx
theorem ov4 : @OvOk (sig x) Tryz.prog 4 gTrue := by
  obtain ⟨func, hf, hc⟩ := fn4_in
  letI := sig x
  letI := K2 cAny NN
  haveI : KOk := know_ok hx _
  have hO := ovsB hx NN
  have hE := ex hO NN
  refine ov_closed (ov_of hf hc k4 fun c _ hic => ?_) ?_
  · rw [body4] at hic
    obtain ⟨x1, y1, k1, rfl, i1, hic⟩ := inv_seq hic
    obtain ⟨x2, y2, k2, rfl, i2, hic⟩ := inv_seq hic
    obtain ⟨x3, y3, k3, rfl, i3, hic⟩ := inv_seq hic
    have hp := (Pc.exec (D := []) hE i1).seq ((Pc.exec hE i2).seq ((Pc.exec hE i3).seq (Pc.exec hE hic)))
    have e : k4 = fun T M => bindR (exec tab NN (nth 0 ir4.body) T M) fun T M => bindR (exec tab NN (nth 1 ir4.body) T M) fun T M => bindR (exec tab NN (nth 2 ir4.body) T M) (exec tab NN (drp 3 ir4.body)) := by
      funext T M
      unfold k4 pre4
      rw [bindR_assoc]
      congr 1
      funext T M
      rw [bindR_assoc]
      rfl
    rw [e]
    exact hp
  · have e : k4 (initT []) Mem.empty = post4 s4T s4M := by
      unfold k4
      rw [pre4_is]
      exact bindR_nrm _ _ _
    have hle : Nat.ble 0 ir4.ntmps = true := by kernel_rfl
    show isTrue (bif Nat.ble 0 ir4.ntmps then finish ir4 (k4 (initT []) Mem.empty) else .bad) = true
    rw [hle, cond_true, e]
    exact post4_is

def ovC (c : Cls) (f : Nat) : Option (List Value → Mem → RC) :=
  bif Nat.beq f 4 then some gTrue else ovB c NN f
@[reducible] def K3 (c : Cls) : Know := know c (ovC c)
include h
theorem ovsC : @OvsOk (sig x) (K3 c) Tryz.prog := by
  intro f g e
  have e : ovC c f = some g := e
  unfold ovC at e
  cases h4 : Nat.beq f 4 with
  | true =>
    rw [h4] at e
    cases e
    rw [beqN h4]
    exact ov4 hx
  | false =>
    rw [h4] at e
    exact ovsB h NN f g e
end

/-- The law's pieces: up to the machine's run, and from there on. -/
def pre3 (T : PM Value) (M : Mem) : R :=
  bindR (@exec (K3 cAny) tab NN (nth 0 ir3.body) T M) fun T M => bindR (@exec (K3 cAny) tab NN (nth 1 ir3.body) T M) fun T M => bindR (@exec (K3 cAny) tab NN (nth 2 ir3.body) T M) fun T M =>
  bindR (@exec (K3 cAny) tab NN (nth 3 ir3.body) T M) fun T M => bindR (@exec (K3 cAny) tab NN (nth 4 ir3.body) T M) fun T M => @exec (K3 cAny) tab NN (nth 5 ir3.body) T M
def post3 (c : Cls) (T : PM Value) (M : Mem) : R := @exec (K2 c NN) tab NN (drp 6 ir3.body) T M
/-- The four inputs. -/
def arg3 : List Value := [.agg ⟨[.float .f32 0, .float .f32 1, .float .f32 2, .float .f32 3]⟩]
end Go.Ai
