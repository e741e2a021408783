/-
  What is told of calls: heap.Alloc, the machine with room, and machine.Run.
-/
import Derived.Test.YtclmkcmpfkmbpaaGreatDoorAi29
set_option maxRecDepth 100000
set_option linter.unusedSectionVars false
namespace Go.Ai
open Go Go.Proofs

@[reducible] def K0 (c : Cls) : Know := know c fun _ => none
/-- The machine with room: its words are a symbol. -/
def g8 (c : Cls) (N : Nat) (args : List Value) (M : Mem) : RC :=
  match @callF (K0 c) tab N 8 args M with
  | .ret (.agg ⟨.int .i64 w :: l⟩) M' => bif ieq w 65536 then .ret (.agg ⟨.float .f32 20 :: l⟩) M' else .bad
  | _ => .bad
def ovA (c : Cls) (N : Nat) (f : Nat) : Option (List Value → Mem → RC) :=
  bif Nat.beq f 97 then some (@g97 (K0 c) N) else bif Nat.beq f 8 then some (g8 c N) else none
@[reducible] def K1 (c : Cls) (N : Nat) : Know := know c (ovA c N)
def ovB (c : Cls) (N : Nat) (f : Nat) : Option (List Value → Mem → RC) :=
  bif Nat.beq f 7 then some (@g7 (K1 c N) N) else ovA c N f
@[reducible] def K2 (c : Cls) (N : Nat) : Know := know c (ovB c N)

section
variable {c : Cls} {x : Inp} (h : c.has x)
include h
theorem ovs0 : @OvsOk (sig x) (K0 c) Tryz.prog := fun f g e => by cases e
theorem ov8 (N : Nat) : @OvOk (sig x) Tryz.prog 8 (g8 c N) := by
  intro args M γ W vs hR hL hb
  have hk := know_ok h fun _ => none
  have hc := @ai (sig x) (K0 c) hk (ovs0 h) N 8 args M γ W vs hR hL
  unfold g8 at hb ⊢
  revert hb hc
  generalize @callF (K0 c) tab N 8 args M = r
  intro hb hc
  split at hb
  · rename_i w l M'
    cases hw : ieq w 65536 with
    | false => rw [hw] at hb; exact absurd rfl hb
    | true =>
      rw [hw] at hb
      have := ieqI hw
      subst this
      refine (hc (by intro e; cases e)).mono fun e w he => ?_
      cases e <;> first | exact he.elim | skip
      obtain ⟨γ', k1, k2, k3⟩ := he
      refine ⟨γ', ?_, k2, k3⟩
      obtain ⟨b, rfl, hl⟩ := @VR.agg_inv (sig x) _ _ _ k1
      obtain ⟨l'⟩ := b
      match l', hl with
      | y :: l', ⟨h1, h2⟩ =>
        have := @VR.int (sig x) _ _ _ _ h1
        subst this
        refine @VR.agg_list (sig x) _ _ _ ⟨?_, h2⟩
        exact @VR.symI (sig x) γ' 20
  · exact absurd rfl hb
theorem ovsA (N : Nat) : @OvsOk (sig x) (K1 c N) Tryz.prog := by
  intro f g e
  have e : ovA c N f = some g := e
  unfold ovA at e
  cases h97 : Nat.beq f 97 with
  | true =>
    rw [h97] at e
    cases e
    rw [beqN h97]
    exact @ov97 (sig x) (K0 c) (know_ok h _) (ovs0 h) N
  | false =>
    rw [h97] at e
    obtain ⟨h8, e⟩ := cond_some e
    rw [beqN h8, ← e]
    exact ov8 h N
theorem ovsB (N : Nat) : @OvsOk (sig x) (K2 c N) Tryz.prog := by
  intro f g e
  have e : ovB c N f = some g := e
  unfold ovB at e
  cases h7 : Nat.beq f 7 with
  | true =>
    rw [h7] at e
    cases e
    rw [beqN h7]
    exact @ov7 (sig x) (K1 c N) (know_ok h _) (ovsA h N) N
  | false =>
    rw [h7] at e
    exact ovsA h N f g e
end
end Go.Ai
