/-
  The abstract interpreter: maps.
-/
import Derived.Test.YtclmkcmpfkmbpaaGreatDoorAi11
set_option linter.unusedSectionVars false
namespace Go.Ai
open Go

variable [Sig] [Know] [KOk]

variable {P : Program} {γ : Gm} {M M' : Mem} {W : World} {T : PM Value} {a : Act} {v : Value}

theorem bytes_beq (s t : List UInt8) : ((⟨⟨s⟩⟩ : ByteArray) == ⟨⟨t⟩⟩) = (s == t) := by
  show ((⟨s⟩ : Array UInt8) == ⟨t⟩) = (s == t)
  simp

theorem run_getObj {r : Nat} {o : Obj} (h : W.heap[r]? = some o) (hn : ∀ c e f, o ≠ .cells c e f) : (getObj r).run P W = .ok o W := by
  cases o <;> first | exact absurd rfl (hn _ _ _) | simp [getObj, Sem.run, h]
theorem run_setObj {r : Nat} {o o' : Obj} (h : W.heap[r]? = some o) (hn : ∀ c e f, o ≠ .cells c e f) : (setObj r o').run P W = .ok () { W with heap := W.heap.setIfInBounds r o' } := by
  cases o <;> first | exact absurd rfl (hn _ _ _) | simp [setObj, Sem.run, h]

theorem keyT_spec {k : TypeId} {s : Bool} (h : keyT P k = some s) : (s = false ∧ ∃ j, P.underlying k = some (.int j)) ∨ (s = true ∧ P.underlying k = some .string) := by
  unfold keyT at h
  split at h
  · rename_i j hj; cases h; exact .inl ⟨rfl, j, hj⟩
  · rename_i hj; cases h; exact .inr ⟨rfl, hj⟩
  · cases h

/-- A key that may be looked up: what it is, and that it is what stands opposite it. -/
theorem keyOk_VR {s : Bool} {k c : Value} (h : keyOk s k = true) (hv : VR γ k c) : c = k ∧ ((s = false ∧ ∃ j n, k = .int j n) ∨ (s = true ∧ ∃ l, k = .string ⟨⟨l⟩⟩)) := by
  unfold keyOk at h
  split at h
  · exact ⟨hv.int, .inl ⟨rfl, _, _, rfl⟩⟩
  · rename_i b
    obtain ⟨⟨l⟩⟩ := b
    exact ⟨hv.string, .inr ⟨rfl, l, rfl⟩⟩
  · cases h

theorem checkKey_run {kt : TypeId} {s : Bool} {k : Value} (hs : keyT P kt = some s) (W : World) (e : Bool) (n : Nat) : (Instr.checkKey e (n + 1) kt k).run P W = .ok () W := by
  rcases keyT_spec hs with ⟨_, j, hu⟩ | ⟨_, hu⟩
  · simp [Instr.checkKey, run_underlying hu]
  · simp [Instr.checkKey, run_underlying hu]

theorem keyEq_now {d : TypeDesc} {k q : Value} {b : Bool} (hk : ((∃ j, d = .int j) ∧ ∃ j n, k = .int j n) ∨ (d = .string ∧ ∃ l, k = .string ⟨⟨l⟩⟩)) (h : keyEq k q = some b) :
    Instr.sameNow d k q = some b ∧ atomV q = true ∧ (b = true → q = k) := by
  unfold keyEq at h
  split at h
  · rename_i i p j q'
    obtain ⟨h1, h2⟩ := cond_some h
    have := keq_spec h1
    subst this
    subst h2
    rcases hk with ⟨⟨j, rfl⟩, _⟩ | ⟨rfl, l, hl⟩
    · refine ⟨by simp [Instr.sameNow, ieq_spec], rfl, fun hb => ?_⟩
      rw [ieq_spec, beq_iff_eq] at hb
      rw [hb]
    · cases hl
  · rename_i s t
    cases h
    rcases hk with ⟨⟨j, rfl⟩, i, n, hl⟩ | ⟨rfl, l, hl⟩
    · cases hl
    · refine ⟨?_, rfl, fun hb => ?_⟩
      · simp [Instr.sameNow, bytes_beq, beqL_spec]
      · rw [beqL_spec, beq_iff_eq] at hb
        rw [hb]
  · cases h

theorem findE_now {d : TypeDesc} {k : Value} (hk : ((∃ j, d = .int j) ∧ ∃ j n, k = .int j n) ∨ (d = .string ∧ ∃ l, k = .string ⟨⟨l⟩⟩)) : ∀ {es es' : List MapEntry} {i : Nat} {r : Option (Nat × Value)}, ER γ es es' → findE k es i = some r →
    ∃ r', Instr.findNow d k es' i = some r' ∧ match r with
      | none => r' = none
      | some (j, u) => ∃ u', r' = some (j, u') ∧ VR γ u u' ∧ i ≤ j ∧ ∃ e e', es[j - i]? = some e ∧ es'[j - i]? = some e' ∧ e.key = k ∧ e'.key = k ∧ e.val = u ∧ e'.val = u' ∧ e.born = e'.born
  | [], [], i, r, _, h => by cases h; exact ⟨none, rfl, rfl⟩
  | e :: es, e' :: es', i, r, hE, h => by
    obtain ⟨h1, h2, h3, h4⟩ := hE
    unfold findE at h
    split at h
    · rename_i hq
      cases h
      obtain ⟨k1, k2, k3⟩ := keyEq_now hk hq
      have := h1.atom_eq k2
      refine ⟨some (i, e'.val), by unfold Instr.findNow; rw [this, k1], e'.val, rfl, h2, Nat.le_refl _, e, e', by simp, by simp, k3 rfl, this.trans (k3 rfl), rfl, rfl, h3⟩
    · rename_i hq
      obtain ⟨k1, k2, k3⟩ := keyEq_now hk hq
      have := h1.atom_eq k2
      obtain ⟨r', f1, f2⟩ := findE_now hk h4 h
      refine ⟨r', by unfold Instr.findNow; rw [this, k1]; exact f1, ?_⟩
      cases r with
      | none => exact f2
      | some ju =>
        obtain ⟨j, u⟩ := ju
        obtain ⟨u', g1, g2, g3, x, x', g4, g5, g6⟩ := f2
        refine ⟨u', g1, g2, by omega, x, x', ?_, ?_, g6⟩
        · rw [show j - i = (j - (i + 1)) + 1 from by omega]; simpa using g4
        · rw [show j - i = (j - (i + 1)) + 1 from by omega]; simpa using g5
    · cases h
  | [], _ :: _, _, _, hE, _ => hE.elim
  | _ :: _, [], _, _, hE, _ => hE.elim

theorem ER.push : ∀ {l m : List MapEntry}, ER γ l m → ∀ {e f : MapEntry}, VR γ e.key f.key → VR γ e.val f.val → e.born = f.born → ER γ (l ++ [e]) (m ++ [f])
  | [], [], _, _, _, h1, h2, h3 => ⟨h1, h2, h3, trivial⟩
  | _ :: _, _ :: _, h, _, _, h1, h2, h3 => ⟨h.1, h.2.1, h.2.2.1, ER.push h.2.2.2 h1 h2 h3⟩
  | [], _ :: _, h, _, _, _, _, _ => h.elim
  | _ :: _, [], h, _, _, _, _, _ => h.elim
theorem ER.length : ∀ {l m : List MapEntry}, ER γ l m → l.length = m.length
  | [], [], _ => rfl
  | _ :: _, _ :: _, h => by simp [ER.length h.2.2.2]
  | [], _ :: _, h => h.elim
  | _ :: _, [], h => h.elim
/-- One entry gets another value. -/
theorem ER.mod {u u' k' : Value} (hu : VR γ u u') : ∀ {l m : List MapEntry}, ER γ l m → ∀ (i : Nat), (∀ e', m[i]? = some e' → e'.key = k') → ER γ (modE (fun e => { e with val := u }) l i) (m.modify i fun e => { e with key := k', val := u' })
  | [], [], _, _, _ => by simp [modE, ER]
  | e :: l, f :: m, h, 0, hk => by
    have := hk f (by simp)
    simp only [modE, List.modify_zero_cons]
    exact ⟨by show VR γ e.key k'; rw [← this]; exact h.1, hu, h.2.2.1, h.2.2.2⟩
  | e :: l, f :: m, h, i + 1, hk => by
    simp only [modE, List.modify_succ_cons]
    exact ⟨h.1, h.2.1, h.2.2.1, ER.mod hu h.2.2.2 i (fun e' he => hk e' (by simpa using he))⟩
  | [], _ :: _, h, _, _ => h.elim
  | _ :: _, [], h, _, _ => h.elim
theorem ER.modv {u u' : Value} (hu : VR γ u u') : ∀ {l m : List MapEntry}, ER γ l m → ∀ (i : Nat), ER γ (modE (fun e => { e with val := u }) l i) (m.modify i fun e => { e with val := u' })
  | [], [], _, _ => by simp [modE, ER]
  | e :: l, f :: m, h, 0 => by
    simp only [modE, List.modify_zero_cons]
    exact ⟨h.1, hu, h.2.2.1, h.2.2.2⟩
  | e :: l, f :: m, h, i + 1 => by
    simp only [modE, List.modify_succ_cons]
    exact ⟨h.1, h.2.1, h.2.2.1, ER.modv hu h.2.2.2 i⟩
  | [], _ :: _, h, _ => h.elim
  | _ :: _, [], h, _ => h.elim

theorem mapOf_spec {u c : Value} {r : Nat} {es : List MapEntry} {k : Nat} (hR : Rel γ M W) (hv : VR γ u c) (h : mapOf M u = some (r, es, k)) :
    ∃ g, γ r = some g ∧ c = .map (some g.blk) ∧ M.h.get r = some (.map es k) ∧ g.base = 0 ∧ ∃ es' : Array MapEntry, W.heap[g.blk]? = some (.map es' k) ∧ ER γ es es'.toList := by
  unfold mapOf at h
  split at h
  · rename_i r'
    split at h
    · rename_i es0 c0 h0
      cases h
      obtain ⟨g, hg, hc⟩ := hv.map_inv
      obtain ⟨o, h1, h2⟩ := hR.obj r g hg
      rw [h0] at h1
      cases h1
      exact ⟨g, hg, hc, h0, h2⟩
    · cases h
  · cases h

theorem keyKind {kt : TypeId} {s : Bool} {k : Value} (hs : keyT P kt = some s) (hk : (s = false ∧ ∃ j n, k = .int j n) ∨ (s = true ∧ ∃ l, k = .string ⟨⟨l⟩⟩)) :
    ∃ d, P.underlying kt = some d ∧ (((∃ j, d = .int j) ∧ ∃ j n, k = .int j n) ∨ (d = .string ∧ ∃ l, k = .string ⟨⟨l⟩⟩)) := by
  rcases keyT_spec hs with ⟨rfl, j, hu⟩ | ⟨rfl, hu⟩
  · rcases hk with ⟨_, h⟩ | ⟨h, _⟩
    · exact ⟨_, hu, .inl ⟨⟨j, rfl⟩, h⟩⟩
    · cases h
  · rcases hk with ⟨h, _⟩ | ⟨_, h⟩
    · cases h
    · exact ⟨_, hu, .inr ⟨rfl, h⟩⟩

theorem findKey_run {kt : TypeId} {d : TypeDesc} {k : Value} {es : List MapEntry} {r : Option (Nat × Value)} (hu : P.underlying kt = some d) (W : World) (h : Instr.findNow d k es 0 = some r) : (Instr.findKey kt k es).run P W = .ok r W := by
  simp [Instr.findKey, run_underlying hu, h]

theorem sameBits_self {k : Value} (hk : (∃ j n, k = .int j n) ∨ ∃ l, k = .string ⟨⟨l⟩⟩) (n : Nat) : Instr.sameBits n k k = true := by
  rcases hk with ⟨j, m, rfl⟩ | ⟨l, rfl⟩
  · cases n <;> simp [Instr.sameBits]
  · cases n <;> simp [Instr.sameBits, bytes_beq]

theorem stays_run {k : Value} (hk : (∃ j n, k = .int j n) ∨ ∃ l, k = .string ⟨⟨l⟩⟩) (W : World) : (Instr.keyThatStays k k).run P W = .ok k W := by
  simp [Instr.keyThatStays, sameBits_self hk]

theorem mset_runs {t kt et : TypeId} {s : Bool} {m k x : Operand} {m' k' x' : Opd} (hu : P.underlying t = some (.map kt et)) (hs : keyT P kt = some s) (hm : opd m = some m') (hk : opd k = some k') (hx : opd x = some x')
    (hT : TR γ T a.tmps) (hR : Rel γ M W) (h : step T M (.mset s m' k' x') = some (v, M')) : Runs P (do Instr.mapUpdate t (a.eval m) (a.eval k) (a.eval x); pure .skip) W γ M v M' := by
  simp only [step] at h
  split at h
  · rename_i r es c hmo
    obtain ⟨hko, h⟩ := cond_opt h
    obtain ⟨g, hg, hc, hM, hb, es', hW, hE⟩ := mapOf_spec hR (opd_ev hm hT) hmo
    obtain ⟨hkc, hkk⟩ := keyOk_VR hko (opd_ev hk hT)
    obtain ⟨d, hd, hdk⟩ := keyKind hs hkk
    have hflat : (∃ j n, k'.ev T = .int j n) ∨ ∃ l, k'.ev T = .string ⟨⟨l⟩⟩ := by
      rcases hkk with ⟨_, h⟩ | ⟨_, h⟩
      · exact .inl h
      · exact .inr h
    have hkv : VR γ (k'.ev T) (k'.ev T) := by
      rcases hflat with ⟨j, n, e⟩ | ⟨l, e⟩ <;> rw [e] <;> exact .atom rfl
    rw [hc, hkc]
    split at h
    · rename_i i u hf
      cases h
      obtain ⟨r', f1, u', f2, f3, _, e1, e2, g1, g2, g3, g4, g5, g6, g7⟩ := findE_now hdk hE hf
      subst f2
      rw [Nat.sub_zero] at g1 g2
      have hw := run_setObj (P := P) (o' := .map (es'.modify i fun e => { e with key := k'.ev T, val := a.eval x }) c) hW (by intro _ _ _ e; cases e)
      have hrel := rel_put (o' := .map (modE (fun e => { e with val := x'.ev T }) es i) c) hR hg hM (by intro _ e; cases e) (by intro _ e; cases e) (.map (es'.modify i fun e => { e with key := k'.ev T, val := a.eval x }) c)
        ⟨hb, es'.modify i fun e => { e with key := k'.ev T, val := a.eval x }, by simp [(hR.dom r g hg).2], by
          rw [Array.toList_modify]
          exact ER.mod (opd_ev hx hT) hE i (fun e' he => by rw [he] at g2; cases g2; exact g4)⟩
      refine ⟨undef, _, γ, .inr ⟨run_u ?_, rfl⟩, VR.undef γ, hrel⟩
      have hget : es'[i]? = some e2 := by simpa using g2
      simp only [Instr.mapUpdate, Sem.run_bind, run_underlying hu, Result.andThen_ok, run_getObj hW (by intro _ _ _ e; cases e), checkKey_run hs W false 9999, findKey_run hd W f1, hget, Option.map_some, Option.getD_some, g4, stays_run hflat W, hw]
    · rename_i hf
      cases h
      obtain ⟨r', f1, f2⟩ := findE_now hdk hE hf
      have f2 : r' = none := f2
      subst f2
      have hw := run_setObj (P := P) (o' := .map (es'.push ⟨k'.ev T, a.eval x, c⟩) (c + 1)) hW (by intro _ _ _ e; cases e)
      have hrel := rel_put (o' := .map (es ++ [⟨k'.ev T, x'.ev T, c⟩]) (c + 1)) hR hg hM (by intro _ e; cases e) (by intro _ e; cases e) (.map (es'.push ⟨k'.ev T, a.eval x, c⟩) (c + 1))
        ⟨hb, es'.push ⟨k'.ev T, a.eval x, c⟩, by simp [(hR.dom r g hg).2], by
          rw [Array.toList_push]
          exact hE.push hkv (opd_ev hx hT) rfl⟩
      refine ⟨undef, _, γ, .inr ⟨run_u ?_, rfl⟩, VR.undef γ, hrel⟩
      simp only [Instr.mapUpdate, Sem.run_bind, run_underlying hu, Result.andThen_ok, run_getObj hW (by intro _ _ _ e; cases e), checkKey_run hs W false 9999, findKey_run hd W f1, hw]
    · cases h
  · cases h

theorem look_runs {t kt et : TypeId} {s ok : Bool} {z : Value} {m k : Operand} {m' k' : Opd} (hu : P.underlying t = some (.map kt et)) (hs : keyT P kt = some s) (hz : zeroT P et = some z) (hm : opd m = some m') (hk : opd k = some k')
    (hT : TR γ T a.tmps) (hR : Rel γ M W) (h : step T M (.look s z ok m' k') = some (v, M')) : Runs P (do pure (.value (← Instr.lookup t (a.eval m) (a.eval k) ok))) W γ M v M' := by
  simp only [step] at h
  obtain ⟨hko, h⟩ := cond_opt h
  obtain ⟨hkc, hkk⟩ := keyOk_VR hko (opd_ev hk hT)
  obtain ⟨d, hd, hdk⟩ := keyKind hs hkk
  obtain ⟨_, _, _, hpl⟩ := zeroT_spec hz
  have hzv := plainV_VR γ z hpl
  have pair : ∀ (u c : Value) (b : Bool), VR γ u c → VR γ (bif ok then .tuple #[u, .bool b] else u) (if ok then .tuple #[c, .bool b] else c) := by
    intro u c b hv
    cases ok with
    | false => exact hv
    | true => exact VR.tuple_list (show LR γ [u, .bool b] [c, .bool b] from ⟨hv, .atom rfl, trivial⟩)
  rw [hkc]
  split at h
  · rename_i e0
    cases h
    have hvm := opd_ev hm hT
    rw [e0] at hvm
    rw [hvm.mapNil]
    refine Runs.v ?_ (pair z z false hzv) hR
    have f1 : Instr.findNow d (k'.ev T) [] 0 = some none := rfl
    simp only [Instr.lookup, Sem.run_bind, run_underlying hu, Result.andThen_ok, Sem.run_pure, checkKey_run hs W _ 9999, findKey_run hd W f1, zeroT_run hz]
  · split at h
    · rename_i r es c hmo
      obtain ⟨g, hg, hc, hM, hb, es', hW, hE⟩ := mapOf_spec hR (opd_ev hm hT) hmo
      rw [hc]
      split at h
      · rename_i i u hf
        cases h
        obtain ⟨r', f1, u', f2, f3, _⟩ := findE_now hdk hE hf
        subst f2
        refine Runs.v ?_ (pair u u' true f3) hR
        simp only [Instr.lookup, Sem.run_bind, run_underlying hu, Result.andThen_ok, Sem.run_pure, run_getObj hW (by intro _ _ _ e; cases e), checkKey_run hs W _ 9999, findKey_run hd W f1]
      · rename_i hf
        cases h
        obtain ⟨r', f1, f2⟩ := findE_now hdk hE hf
        have f2 : r' = none := f2
        subst f2
        refine Runs.v ?_ (pair z z false hzv) hR
        simp only [Instr.lookup, Sem.run_bind, run_underlying hu, Result.andThen_ok, Sem.run_pure, run_getObj hW (by intro _ _ _ e; cases e), checkKey_run hs W _ 9999, findKey_run hd W f1, zeroT_run hz]
      · cases h
    · cases h

theorem bornAt_spec : ∀ {es : List MapEntry} {i : Nat} {e : MapEntry}, es[i]? = some e → bornAt es i = e.born
  | [], _, _, h => by simp at h
  | e :: _, 0, _, h => by simp at h; subst h; rfl
  | _ :: es, i + 1, e, h => bornAt_spec (es := es) (by simpa using h)
theorem ER.modk {k' : Value} : ∀ {l m : List MapEntry}, ER γ l m → ∀ (i : Nat), (∀ e', m[i]? = some e' → e'.key = k') → ER γ l (m.modify i fun e => { e with key := k' })
  | [], [], _, _, _ => by simp [ER]
  | e :: l, f :: m, h, 0, hk => by
    have := hk f (by simp)
    simp only [List.modify_zero_cons]
    exact ⟨by show VR γ e.key k'; rw [← this]; exact h.1, h.2.1, h.2.2.1, h.2.2.2⟩
  | e :: l, f :: m, h, i + 1, hk => by
    simp only [List.modify_succ_cons]
    exact ⟨h.1, h.2.1, h.2.2.1, ER.modk h.2.2.2 i (fun e' he => hk e' (by simpa using he))⟩
  | [], _ :: _, h, _, _ => h.elim
  | _ :: _, [], h, _, _ => h.elim

/-- A map is written anew, to what stands as it stood. -/
theorem rel_putm {r : Nat} {g : G} {o : AO} (hR : Rel γ M W) (hr : γ r = some g) (ho : M.h.get r = some o) (hno : ∀ a, o ≠ .arr a) (ob : Obj) (hh : ObjR γ M { W with heap := W.heap.setIfInBounds g.blk ob } g o) :
    Rel γ M { W with heap := W.heap.setIfInBounds g.blk ob } ∧ Ext γ M W γ M { W with heap := W.heap.setIfInBounds g.blk ob } := by
  have hother : ∀ k, k ≠ g.blk → (W.heap.setIfInBounds g.blk ob)[k]? = W.heap[k]? := fun k hk => Array.getElem?_setIfInBounds_ne (Ne.symm hk)
  have hth2 : Thaw (W.heap.setIfInBounds g.blk ob)[g.blk]? := hh.thaw (fun a e => absurd e (hno a))
  have hth1 : Thaw W.heap[g.blk]? := by
    obtain ⟨o1, k1, k2⟩ := hR.obj r g hr
    rw [ho] at k1
    cases k1
    exact k2.thaw (fun a e => absurd e (hno a))
  refine ⟨⟨fun x gx hx => ⟨(hR.dom x gx hx).1, by simpa using (hR.dom x gx hx).2⟩, ?_, hR.alone, hR.svle⟩,
    ⟨Le.refl γ, fun _ _ h1 h2 => some_none h1 h2, Nat.le_refl _, fun _ _ _ => rfl, by simp, fun k _ hk => hother k (fun e => hk r g hr e.symm), rfl, rfl, rfl, froz_at hth1 hth2 hother⟩⟩
  intro x gx hx
  by_cases ex : x = r
  · subst ex
    rw [hr] at hx
    cases hx
    exact ⟨o, ho, hh⟩
  · obtain ⟨y, h1, h2⟩ := hR.obj x gx hx
    refine ⟨y, h1, h2.keep (Le.refl γ) (fun _ _ hv => hv) (hother _ ?_)⟩
    intro hbl
    obtain ⟨a1, _, k1, _⟩ := hR.alone r x g gx hr hx (Ne.symm ex) hbl.symm
    rw [ho] at k1
    cases k1
    exact hno a1 rfl

theorem ment_runs {t kt et : TypeId} {s : Bool} {z : Value} {m k : Operand} {m' k' : Opd} (hu : P.underlying t = some (.map kt et)) (hs : keyT P kt = some s) (hz : zeroT P et = some z) (hm : opd m = some m') (hk : opd k = some k')
    (hT : TR γ T a.tmps) (hR : Rel γ M W) (h : step T M (.ment s z m' k') = some (v, M')) : Runs P (do pure (.value (← Instr.mapEntry t (a.eval m) (a.eval k)))) W γ M v M' := by
  simp only [step] at h
  split at h
  · rename_i r es c hmo
    obtain ⟨hko, h⟩ := cond_opt h
    obtain ⟨g, hg, hc, hM, hb, es', hW, hE⟩ := mapOf_spec hR (opd_ev hm hT) hmo
    obtain ⟨hkc, hkk⟩ := keyOk_VR hko (opd_ev hk hT)
    obtain ⟨d, hd, hdk⟩ := keyKind hs hkk
    obtain ⟨_, _, _, hpl⟩ := zeroT_spec hz
    have hzv := plainV_VR γ z hpl
    have hflat : (∃ j n, k'.ev T = .int j n) ∨ ∃ l, k'.ev T = .string ⟨⟨l⟩⟩ := by
      rcases hkk with ⟨_, h⟩ | ⟨_, h⟩
      · exact .inl h
      · exact .inr h
    have hkv : VR γ (k'.ev T) (k'.ev T) := by
      rcases hflat with ⟨j, n, e⟩ | ⟨l, e⟩ <;> rw [e] <;> exact .atom rfl
    rw [hc, hkc]
    split at h
    · rename_i i u hf
      cases h
      obtain ⟨r', f1, u', f2, f3, _, e1, e2, g1, g2, g3, g4, g5, g6, g7⟩ := findE_now hdk hE hf
      subst f2
      rw [Nat.sub_zero] at g1 g2
      have hw := run_setObj (P := P) (o' := .map (es'.modify i fun e => { e with key := k'.ev T }) c) hW (by intro _ _ _ e; cases e)
      have hrel := rel_putm hR hg hM (by intro _ e; cases e) (.map (es'.modify i fun e => { e with key := k'.ev T }) c)
        ⟨hb, es'.modify i fun e => { e with key := k'.ev T }, by simp [(hR.dom r g hg).2], by
          rw [Array.toList_modify]
          exact hE.modk i (fun e' he => by rw [he] at g2; cases g2; exact g4)⟩
      have hget : es'[i]? = some e2 := by simpa using g2
      refine ⟨.tuple #[u', goInt e2.born], _, γ, .inl (run_v ?_), VR.tuple_list (show LR γ [u, .int .i64 (.ofNat (bornAt es i))] [u', .int .i64 (e2.born : Int)] from ⟨f3, ?_, trivial⟩), hrel⟩
      · simp only [Instr.mapEntry, Sem.run_bind, run_underlying hu, Result.andThen_ok, run_getObj hW (by intro _ _ _ e; cases e), checkKey_run hs W false 9999, findKey_run hd W f1, hget, Option.map_some, Option.getD_some, g4, stays_run hflat W, hw, Sem.run_pure]
      · rw [bornAt_spec g1, g7]; exact .atom rfl
    · rename_i hf
      cases h
      obtain ⟨r', f1, f2⟩ := findE_now hdk hE hf
      have f2 : r' = none := f2
      subst f2
      have hw := run_setObj (P := P) (o' := .map (es'.push ⟨k'.ev T, z, c⟩) (c + 1)) hW (by intro _ _ _ e; cases e)
      have hrel := rel_put (o' := .map (es ++ [⟨k'.ev T, z, c⟩]) (c + 1)) hR hg hM (by intro _ e; cases e) (by intro _ e; cases e) (.map (es'.push ⟨k'.ev T, z, c⟩) (c + 1))
        ⟨hb, es'.push ⟨k'.ev T, z, c⟩, by simp [(hR.dom r g hg).2], by
          rw [Array.toList_push]
          exact hE.push hkv hzv rfl⟩
      refine ⟨.tuple #[z, goInt c], _, γ, .inl (run_v ?_), VR.tuple_list (show LR γ [z, .int .i64 (.ofNat c)] [z, .int .i64 (c : Int)] from ⟨hzv, .atom rfl, trivial⟩), hrel⟩
      simp only [Instr.mapEntry, Sem.run_bind, run_underlying hu, Result.andThen_ok, run_getObj hW (by intro _ _ _ e; cases e), checkKey_run hs W false 9999, findKey_run hd W f1, hw, zeroT_run hz, Sem.run_pure]
    · cases h
  · cases h

theorem findBorn_spec {b : Nat} : ∀ {es es' : List MapEntry} {i j : Nat}, ER γ es es' → findBorn b es i = some j → ∃ k, j = i + k ∧ (es'.findIdx? fun e => (e.born : Int) == (b : Int)) = some k
  | [], [], _, _, _, h => by cases h
  | e :: es, e' :: es', i, j, hE, h => by
    unfold findBorn at h
    have hb : ((e'.born : Int) == (b : Int)) = Nat.beq e.born b := by
      rw [Bool.eq_iff_iff, beq_iff_eq, hE.2.2.1]
      constructor
      · intro h; have : e'.born = b := by omega
        subst this; exact Nat.beq_refl _
      · intro h; rw [Nat.eq_of_beq_eq_true h]
    cases hc : Nat.beq e.born b with
    | true =>
      rw [hc] at h
      have h' : some i = some j := h
      cases h'
      exact ⟨0, rfl, by rw [List.findIdx?_cons, hb, hc]; rfl⟩
    | false =>
      rw [hc] at h
      have h' : findBorn b es (i + 1) = some j := h
      obtain ⟨k, k1, k2⟩ := findBorn_spec hE.2.2.2 h'
      exact ⟨k + 1, by omega, by rw [List.findIdx?_cons, hb, hc, k2]; rfl⟩
  | [], _ :: _, _, _, hE, _ => hE.elim
  | _ :: _, [], _, _, hE, _ => hE.elim

theorem mest_runs {t : TypeId} {m s x : Operand} {m' s' x' : Opd} (hm : opd m = some m') (hs : opd s = some s') (hx : opd x = some x')
    (hT : TR γ T a.tmps) (hR : Rel γ M W) (h : step T M (.mest m' s' x') = some (v, M')) : Runs P (do Instr.entryStore t (a.eval m) (a.eval s) (a.eval x); pure .skip) W γ M v M' := by
  simp only [step] at h
  split at h
  · rename_i r es c b hmo hb0
    split at h
    · rename_i i hf
      cases h
      obtain ⟨g, hg, hc, hM, hb, es', hW, hE⟩ := mapOf_spec hR (opd_ev hm hT) hmo
      obtain ⟨k, hk⟩ := natArg_VR hb0 (opd_ev hs hT)
      obtain ⟨j, j1, j2⟩ := findBorn_spec hE hf
      rw [Nat.zero_add] at j1
      subst j1
      have j2' : (es'.findIdx? fun e => (e.born : Int) == (b : Int)) = some i := by
        rw [← j2, ← List.findIdx?_toArray, Array.toArray_toList]
      have hw := run_setObj (P := P) (o' := .map (es'.modify i fun e => { e with val := a.eval x }) c) hW (by intro _ _ _ e; cases e)
      have hrel := rel_put (o' := .map (modE (fun e => { e with val := x'.ev T }) es i) c) hR hg hM (by intro _ e; cases e) (by intro _ e; cases e) (.map (es'.modify i fun e => { e with val := a.eval x }) c)
        ⟨hb, es'.modify i fun e => { e with val := a.eval x }, by simp [(hR.dom r g hg).2], by
          rw [Array.toList_modify]
          exact ER.modv (opd_ev hx hT) hE i⟩
      rw [hc, hk]
      refine ⟨undef, _, γ, .inr ⟨run_u ?_, rfl⟩, VR.undef γ, hrel⟩
      simp only [Instr.entryStore, Sem.run_bind, Result.andThen_ok, run_getObj hW (by intro _ _ _ e; cases e), asInt, asIntOf, Sem.run_pure, j2', hw]
    · cases h
  · cases h

theorem mkmap_runs {t : TypeId} (hR : Rel γ M W) (h : step T M .mkmap = some (v, M')) : Runs P (do pure (.value (← Instr.makeMap t none))) W γ M v M' := by
  simp only [step] at h
  cases h
  have hrel := rel_new hR (.map [] 0) (.map #[] 0) ⟨W.heap.size, 0, 0, 0⟩ rfl ⟨rfl, #[], heap_alloc_new W _, trivial⟩ (by intro a e; cases e)
  refine ⟨.map (some W.heap.size), _, upd γ M.nx ⟨W.heap.size, 0, 0, 0⟩, .inl (run_v ?_), .map (g := ⟨W.heap.size, 0, 0, 0⟩) (upd_same _ _ _), hrel⟩
  simp [Instr.makeMap]

theorem mlen_runs {t ty kt et : TypeId} (hu : P.underlying t = some (.map kt et)) {x : Operand} {x' : Opd} (hx : opd x = some x') (hT : TR γ T a.tmps) (hR : Rel γ M W) (h : step T M (.mlen x') = some (v, M')) :
    Runs P (do pure (.value (← Builtin.len_ #[t] ty #[a.eval x]))) W γ M v M' := by
  simp only [step] at h
  split at h
  · rename_i e0
    cases h
    have hv := opd_ev hx hT
    rw [e0] at hv
    rw [hv.mapNil]
    exact Runs.v (cv := .int .i64 0) (by simp [Builtin.len_, run_underlying hu, goInt]) (.atom rfl) hR
  · split at h
    · rename_i r es c hmo
      cases h
      obtain ⟨g, hg, hc, hM, hb, es', hW, hE⟩ := mapOf_spec hR (opd_ev hx hT) hmo
      rw [hc]
      have : es.length = es'.size := by rw [hE.length]; simp
      rw [this]
      refine Runs.v (cv := .int .i64 (es'.size : Int)) ?_ (.atom rfl) hR
      have hg := run_getObj (P := P) hW (by intro _ _ _ e; cases e)
      simp [Builtin.len_, run_underlying hu, goInt, hg]
    · cases h

theorem range_runs {t kt et : TypeId} (hu : P.underlying t = some (.map kt et)) {x : Operand} {x' : Opd} (hx : opd x = some x') (hT : TR γ T a.tmps) (hR : Rel γ M W) (h : step T M (.range x') = some (v, M')) :
    Runs P (do pure (.value (← Instr.range t (a.eval x)))) W γ M v M' := by
  simp only [step] at h
  split at h
  · rename_i e0
    cases h
    have hv := opd_ev hx hT
    rw [e0] at hv
    rw [hv.mapNil]
    have hrel := rel_new hR (.miter none 0 [] 0) (.mapIter none 0 #[] 0) ⟨W.heap.size, 0, 0, 0⟩ rfl ⟨rfl, none, heap_alloc_new W _, .inl ⟨rfl, rfl⟩⟩ (by intro a e; cases e)
    refine ⟨.pointer (some ⟨W.heap.size, 0, none⟩), _, upd γ M.nx ⟨W.heap.size, 0, 0, 0⟩, .inl (run_v ?_), .ptr (g := ⟨W.heap.size, 0, 0, 0⟩) (upd_same _ _ _), hrel⟩
    simp [Instr.range, run_underlying hu]
  · split at h
    · rename_i r es c hmo
      cases h
      obtain ⟨g, hg, hc, hM, hb, es', hW, hE⟩ := mapOf_spec hR (opd_ev hx hT) hmo
      rw [hc]
      have hrel := rel_new hR (.miter (some r) c [] c) (.mapIter (some g.blk) c #[] c) ⟨W.heap.size, 0, 0, 0⟩ rfl
        ⟨rfl, some g.blk, heap_alloc_new W _, .inr ⟨r, g, rfl, (upd_other γ _ (Nat.ne_of_lt (hR.dom r g hg).1)).trans hg, rfl⟩⟩ (by intro a e; cases e)
      refine ⟨.pointer (some ⟨W.heap.size, 0, none⟩), _, upd γ M.nx ⟨W.heap.size, 0, 0, 0⟩, .inl (run_v ?_), .ptr (g := ⟨W.heap.size, 0, 0, 0⟩) (upd_same _ _ _), hrel⟩
      have hg := run_getObj (P := P) hW (by intro _ _ _ e; cases e)
      simp [Instr.range, run_underlying hu, hg]
    · cases h

theorem next_runs {ty : TypeId} {x : Operand} {x' : Opd} (hx : opd x = some x') (hT : TR γ T a.tmps) (hR : Rel γ M W) (h : step T M (.next x') = some (v, M')) :
    Runs P (do pure (.value (← Instr.next (a.eval x) false ty))) W γ M v M' := by
  simp only [step] at h
  have hv := opd_ev hx hT
  split at h
  · rename_i r e0
    rw [e0] at hv
    obtain ⟨g, hg, hc⟩ := hv.ptr_inv
    obtain ⟨o, h1, h2⟩ := hR.obj r g hg
    split at h
    · rename_i since seen st hM
      cases h
      rw [h1] at hM
      cases hM
      obtain ⟨hb, m', hW, hm⟩ := h2
      rcases hm with ⟨_, rfl⟩ | ⟨r2, g2, e2, _⟩
      · rw [hc, hb]
        have hg := run_getObj (P := P) hW (by intro _ _ _ e; cases e)
        exact Runs.v (cv := .tuple #[.bool false]) (by simp [Instr.next, hg]) (VR.tuple_list ⟨.atom rfl, trivial⟩) hR
      · cases e2
    · rename_i m since seen st hM
      split at h
      · rename_i c hMm
        cases h
        rw [h1] at hM
        cases hM
        obtain ⟨hb, m', hW, hm⟩ := h2
        rcases hm with ⟨e2, _⟩ | ⟨r2, g2, e2, e3, rfl⟩
        · cases e2
        · cases e2
          obtain ⟨o2, k1, k2⟩ := hR.obj m g2 e3
          rw [hMm] at k1
          cases k1
          obtain ⟨_, es', hWm, hE⟩ := k2
          have hes : es' = #[] := by
            have := hE.length
            exact Array.eq_empty_of_size_eq_zero (by simpa using this.symm)
          subst hes
          rw [hc, hb]
          have hg := run_getObj (P := P) hW (by intro _ _ _ e; cases e)
          have hg2 := run_getObj (P := P) hWm (by intro _ _ _ e; cases e)
          exact Runs.v (cv := .tuple #[.bool false]) (by simp [Instr.next, hg, hg2, Question.forced]) (VR.tuple_list ⟨.atom rfl, trivial⟩) hR
      · cases h
    · cases h
  · cases h
end Go.Ai
