/-
  The abstract interpreter: append and copy.
-/
import Derived.Test.YtclmkcmpfkmbpaaGreatDoorAi10
set_option linter.unusedSectionVars false
namespace Go.Ai
open Go

variable [Sig] [Know] [KOk]

variable {P : Program} {γ : Gm} {M M' : Mem} {W : World} {T : PM Value} {a : Act} {v : Value}

/-- Append of nothing. -/
theorem run_append_zero {t ty e : TypeId} {es : Nat} (hu : P.underlying t = some (.slice e)) (hs : sizeT P e = some es) (W : World) (b : Option Addr) (n c : Nat) (hnc : n ≤ c) (x : Option Addr) (cx : Nat) :
    (Builtin.append_ #[t, t] ty #[.slice b n c, .slice x 0 cx]).run P W = .ok (.slice b n c) W := by
  cases x with
  | none => cases b <;> simp [Builtin.append_, run_underlying hu, sizeT_run hs, Builtin.lenOf, hnc, Builtin.firstCells, storeCells]
  | some x => cases b <;> simp [Builtin.append_, run_underlying hu, sizeT_run hs, Builtin.lenOf, hnc, Builtin.firstCells, loadCells, loadCellsFrom, storeCells]

/-- Append where there is room. -/
theorem run_append_in {t ty e : TypeId} {es : Nat} (hu : P.underlying t = some (.slice e)) (hs : sizeT P e = some es) (W : World) (g o sLen sCap : Nat) (cur : Array Value) (el : TypeId) (hg : W.heap[g]? = some (.cells cur el (0, 0)))
    (ad : Addr) (m c : Nat) (news : List Value) (hl : news.length = m * es) (hnews : ∀ (j : Nat) u, news[j]? = some u → W.cell? (ad.add j) = some u) (h1 : ∀ u ∈ news, u.oneCell' = true)
    (hroom : sLen + m ≤ sCap) (hfit : o + sLen * es + news.length ≤ cur.size) :
    (Builtin.append_ #[t, t] ty #[.slice (some ⟨g, o, none⟩) sLen sCap, .slice (some ad) m c]).run P W =
      .ok (.slice (some ⟨g, o, none⟩) (sLen + m) sCap) (W.setRow g (cur.toList.take (o + sLen * es) ++ news ++ cur.toList.drop (o + sLen * es + news.length)).toArray) := by
  have hf := run_firstCells_some (P := P) W es m ad m c news hl hnews
  have hst := run_storeCells_at P g (o + sLen * es) el news 0 cur W hg (by simpa using hfit) h1
  simp only [Nat.add_zero] at hst
  simp [Builtin.append_, run_underlying hu, sizeT_run hs, Builtin.lenOf, hroom, hf, Addr.add_mid, hst]

theorem snap_cases (M : Mem) (r : Nat) (a : Arr) (e : Nat) (x : AO) :
    (⟨(M.h.set r (.arr { a with own := false, sv := lwOf M a.grp })).set M.nx x, M.nx + 1, bif Nat.beq e a.n then M.lw else M.lw.set a.grp (lwOf M a.grp + 1)⟩ : Mem) =
      ⟨(snap M r a (!(Nat.beq e a.n))).h.set (snap M r a (!(Nat.beq e a.n))).nx x, (snap M r a (!(Nat.beq e a.n))).nx + 1, (snap M r a (!(Nat.beq e a.n))).lw⟩ := by
  unfold snap
  cases Nat.beq e a.n <;> rfl

/-- What is laid behind a row: the row's cells up to the slice's end, and the new ones. -/
theorem append_world {r o len m es by_ : Nat} {g : G} {ar arr : Arr} {xs cxs : List Value} {z : Value} {t ty e : TypeId} {i : TypeInfo}
    (hu : P.underlying t = some (.slice e)) (hi : P.info? e = some i) (hz : i.zero = some z) (hzs : (cellsL z).length = es) (hsz : i.size = es) (hby : i.bytes = by_)
    (hR : Rel γ M W) (hr : γ r = some g) (har : M.h.get r = some (.arr ar)) (hown : ar.own = true) (hes : ar.es = es) (hend : o + len * es ≤ ar.n) (hm : 0 < m) (hsmall : (len + m) * by_ ≤ 1099511627776)
    (hby1 : len + m ≤ 1099511627776)
    (hx : LR γ xs cxs) (hx1 : ∀ u ∈ xs, u.oneCell' = true) (hxl : xs.length = m * es) (ad : Addr) (cx : Nat) (hnews : ∀ (j : Nat) u, cxs[j]? = some u → W.cell? (ad.add j) = some u)
    (harr : arr.own = true ∧ arr.shared = true ∧ arr.grp = ar.grp ∧ arr.es = es ∧ arr.n = len * es + xs.length)
    (hcells : ∀ k w, arr.cells.get k = some w → (k < len * es ∧ ar.cells.get (o + k) = some w) ∨ (len * es ≤ k ∧ xs[k - len * es]? = some w))
    {c : Value} (hc : (∃ cap, c = .slice (some ⟨g.blk, g.base + o, none⟩) len cap ∧ len ≤ cap ∧ o + cap * g.es ≤ g.room) ∨ (len = 0 ∧ ∃ b, c = .slice (some b) 0 0)) :
    ∃ cv W' γ', (Builtin.append_ #[t, t] ty #[c, .slice (some ad) m cx]).run P W = .ok cv W' ∧ VR γ' (.slice (some ⟨M.nx, 0, none⟩) (len + m) 0) cv ∧
      Rel γ' ⟨(M.h.set r (.arr { ar with own := false, sv := lwOf M ar.grp })).set M.nx (.arr arr), M.nx + 1, bif Nat.beq (o + len * es) ar.n then M.lw else M.lw.set ar.grp (lwOf M ar.grp + 1)⟩ W' ∧
      Ext γ M W γ' ⟨(M.h.set r (.arr { ar with own := false, sv := lwOf M ar.grp })).set M.nx (.arr arr), M.nx + 1, bif Nat.beq (o + len * es) ar.n then M.lw else M.lw.set ar.grp (lwOf M ar.grp + 1)⟩ W' := by
  rw [snap_cases]
  obtain ⟨hR1, hE1, hmates⟩ := rel_snap hR hr har hown (!(Nat.beq (o + len * es) ar.n))
  have hsT : sizeT P e = some es := by unfold sizeT; rw [hi]; simp [hsz]
  obtain ⟨x0, q1, q2⟩ := hR.obj r g hr
  rw [har] at q1
  cases q1
  have hges : g.es = es := q2.1.symm.trans hes
  obtain ⟨cur, el, w1, w2, w3, w4⟩ := q2.2 (by rw [valid_iff]; exact .inl hown)
  have hcl := hx.length
  obtain ⟨ha1, ha2, ha3, ha4, ha5⟩ := harr
  have hxl' : cxs.length = m * i.size := by rw [hsz, ← hcl, hxl]
  -- the new block
  have grow : ∀ (W1 : World) (hR1' : Rel γ (snap M r ar (!(Nat.beq (o + len * es) ar.n))) W1) (olds : List Value) (more : Array Value) (cap : Nat), olds.length = len * es → (∀ k u, k < len * es → cur[g.base + o + k]? = some u → olds[k]? = some u) →
      more.size = (cap - (len + m)) * es → len + m ≤ cap →
      VR (upd γ M.nx ⟨W1.heap.size, 0, cap * es, es⟩) (.slice (some ⟨M.nx, 0, none⟩) (len + m) 0) (.slice (some ⟨W1.heap.size, 0, none⟩) (len + m) cap) ∧
      Rel (upd γ M.nx ⟨W1.heap.size, 0, cap * es, es⟩) ⟨(snap M r ar (!(Nat.beq (o + len * es) ar.n))).h.set M.nx (.arr arr), M.nx + 1, (snap M r ar (!(Nat.beq (o + len * es) ar.n))).lw⟩ (W1.alloc (.cells (olds.toArray ++ cxs.toArray ++ more) e)) ∧
      Ext γ (snap M r ar (!(Nat.beq (o + len * es) ar.n))) W1 (upd γ M.nx ⟨W1.heap.size, 0, cap * es, es⟩) ⟨(snap M r ar (!(Nat.beq (o + len * es) ar.n))).h.set M.nx (.arr arr), M.nx + 1, (snap M r ar (!(Nat.beq (o + len * es) ar.n))).lw⟩ (W1.alloc (.cells (olds.toArray ++ cxs.toArray ++ more) e)) := by
    intro W1 hR1' olds more cap ho hov hmore hcap
    have hsum : len * es + m * es + (cap - (len + m)) * es = cap * es := by
      rw [← Nat.add_mul, ← Nat.add_mul]; congr 1; omega
    have hle : len * es + m * es ≤ cap * es := by rw [← Nat.add_mul]; exact Nat.mul_le_mul_right _ hcap
    have hrow := rel_row hR1' arr (olds.toArray ++ cxs.toArray ++ more) e (cap * es) ha1 (by simp only [Array.size_append, List.size_toArray]; omega) (by omega) ?_
    · rw [ha4] at hrow
      refine ⟨.slice (g := ⟨W1.heap.size, 0, cap * es, es⟩) (upd_same _ _ _) hcap (by show 0 + cap * es ≤ cap * es; omega), hrow.1, hrow.2⟩
    · intro k w hk
      have hget : (olds.toArray ++ cxs.toArray ++ more)[k]? = if k < len * es then olds[k]? else if k < len * es + m * es then cxs[k - len * es]? else more[k - (len * es + m * es)]? := by
        rw [Array.getElem?_append, Array.getElem?_append]
        simp only [Array.size_append, List.size_toArray, List.getElem?_toArray, ho, ← hcl, hxl]
        by_cases c1 : k < len * es
        · rw [if_pos (by omega), if_pos c1, if_pos c1]
        · by_cases c2 : k < len * es + m * es
          · rw [if_pos c2, if_neg c1, if_neg c1, if_pos c2]
          · rw [if_neg c2, if_neg c1, if_neg c2]
      rcases hcells k w hk with ⟨k1, k2⟩ | ⟨k1, k2⟩
      · obtain ⟨d1, d2, u, d3, d4⟩ := w4 _ w k2
        exact ⟨by omega, d2, u, by rw [hget, if_pos k1]; exact hov k u k1 (by rw [Nat.add_assoc]; exact d3), d4⟩
      · obtain ⟨u, hu1, hu2⟩ := hx.get _ w k2
        have hlt := (List.getElem?_eq_some_iff.1 k2).1
        exact ⟨by omega, hx1 w (List.mem_of_getElem? k2), u, by rw [hget, if_neg (by omega), if_pos (by omega)]; exact hu1, hu2⟩
  have h63 : ((len + m : Nat) : Int) ≤ 9223372036854775807 := by omega
  rcases hc with ⟨cap, rfl, hle, hroom⟩ | ⟨rfl, b, rfl⟩
  · by_cases hin : len + m ≤ cap
    · -- in place
      have hmul : o + (len + m) * es ≤ g.room := by
        rw [hges] at hroom
        exact Nat.le_trans (Nat.add_le_add_left (Nat.mul_le_mul_right _ hin) _) hroom
      rw [Nat.add_mul] at hmul
      have hfit : g.base + o + len * es + cxs.length ≤ cur.size := by omega
      refine ⟨_, _, upd γ M.nx ⟨g.blk, g.base + o, g.room - o, es⟩, run_append_in hu hsT W g.blk (g.base + o) len cap cur el w1 ad m cx cxs (by rw [hxl', hsz]) hnews (hx.one hx1) hin hfit, ?_, ?_⟩
      · refine .slice (g := ⟨g.blk, g.base + o, g.room - o, es⟩) (upd_same _ _ _) hin ?_
        show 0 + cap * es ≤ g.room - o
        rw [hges] at hroom; omega
      · have hseg : ∀ k, ((cur.toList.take (g.base + o + len * es) ++ cxs ++ cur.toList.drop (g.base + o + len * es + cxs.length)).toArray)[k]? =
            if g.base + o + len * es ≤ k ∧ k < g.base + o + len * es + cxs.length then cxs[k - (g.base + o + len * es)]? else cur.toList[k]? := by
          intro k
          rw [List.getElem?_toArray]
          exact seg_get cur.toList cxs _ k (by simpa using hfit)
        have hx := rel_extend (a := arr) (g := ⟨g.blk, g.base + o, g.room - o, es⟩) (lim := g.base + (o + len * es)) hR1 (hR.dom r g hr).2 ?_ ⟨r, g, hr, rfl⟩ rfl ha4 ha1 ha2 ha3 ?_ cur
          (cur.toList.take (g.base + o + len * es) ++ cxs ++ cur.toList.drop (g.base + o + len * es + cxs.length)).toArray el w1 ?_ ?_ ?_
        · exact ⟨hx.1, hE1.trans hx.2⟩
        · intro x gx hx hb
          obtain ⟨ax, m1, m2, m3, m4⟩ := hmates x gx hx hb
          refine ⟨ax, m1, m2, m3, fun hv => ?_⟩
          obtain ⟨n1, n2⟩ := m4 hv
          have he : o + len * es = ar.n := Nat.eq_of_beq_eq_true (by simpa using n1)
          omega
        · show g.base + (o + len * es) ≤ g.base + o + arr.n
          omega
        · simp only [List.size_toArray, List.length_append, List.length_take, List.length_drop, Array.length_toList]
          omega
        · intro k hk
          rw [hseg, if_neg (by omega)]
          simp
        · refine ⟨_, el, setRow_heap W g.blk cur _ el (0, 0) w1, ?_, ?_, ?_⟩
          · show g.base + o + (g.room - o) ≤ _
            simp only [List.size_toArray, List.length_append, List.length_take, List.length_drop, Array.length_toList]
            omega
          · show arr.n ≤ g.room - o
            omega
          · intro k w hk
            show k < arr.n ∧ w.oneCell' = true ∧ ∃ u, _
            rcases hcells k w hk with ⟨k1, k2⟩ | ⟨k1, k2⟩
            · obtain ⟨d1, d2, u, d3, d4⟩ := w4 _ w k2
              refine ⟨by omega, d2, u, ?_, d4.mono (le_upd _ (hR1.fresh (Nat.le_refl _)))⟩
              show (_ : Array Value)[g.base + o + k]? = _
              rw [hseg, if_neg (by omega)]
              rw [show g.base + o + k = g.base + (o + k) from by omega]
              simpa using d3
            · obtain ⟨u, hu1, hu2⟩ := hx.get _ w k2
              have hlt := (List.getElem?_eq_some_iff.1 k2).1
              refine ⟨by omega, hx1 w (List.mem_of_getElem? k2), u, ?_, hu2.mono (le_upd _ (hR1.fresh (Nat.le_refl _)))⟩
              show (_ : Array Value)[g.base + o + k]? = _
              rw [hseg, if_pos (by omega), show g.base + o + k - (g.base + o + len * es) = k - len * es from by omega]
              exact hu1
    · -- a new block
      have holds : ∀ (j : Nat) u, ((cur.toList.drop (g.base + o)).take (len * es))[j]? = some u → W.cell? ((⟨g.blk, g.base + o, none⟩ : Addr).add j) = some u := by
        intro j u hj
        rw [List.getElem?_take] at hj
        split at hj
        · rw [List.getElem?_drop] at hj
          rw [Addr.add_mid, cell_of_row W g.blk _ cur el (0, 0) w1]
          simpa using hj
        · cases hj
      have hol : ((cur.toList.drop (g.base + o)).take (len * es)).length = len * es := by
        simp only [List.length_take, List.length_drop, Array.length_toList]
        omega
      have hrun := run_append_grow (P := P) W t ty e i z hu hi hz ⟨g.blk, g.base + o, none⟩ len cap _ (hol.trans (by rw [hsz])) holds ad m cx cxs hxl' hnews (by omega) h63 (growslice_fits (by omega) (by rw [hby]; omega))
      obtain ⟨g1, g2, g3⟩ := grow W.drew hR1.drew _ (Builtin.zeroCells z.cells (grownCap W (len + m) cap e - (len + m))) (grownCap W (len + m) cap e) hol
        (fun k u hk hu => by rw [List.getElem?_take, if_pos hk, List.getElem?_drop]; simpa using hu)
        (by rw [size_zeroCells, ← Array.length_toList, cells_toList, hzs]) (grownCap_ge W _ _ _)
      exact ⟨_, _, _, hrun, g1, g2, hE1.trans ((Ext.drew _ W).trans g3)⟩
  · have hrun := run_append_grow (P := P) W t ty e i z hu hi hz b 0 0 [] (by simp) (by simp) ad m cx cxs hxl' hnews (by omega) h63 (growslice_fits (by omega) (by rw [hby]; omega))
    obtain ⟨g1, g2, g3⟩ := grow W.drew hR1.drew [] (Builtin.zeroCells z.cells (grownCap W (0 + m) 0 e - (0 + m))) (grownCap W (0 + m) 0 e) (by simp) (fun k u hk => by omega)
      (by rw [size_zeroCells, ← Array.length_toList, cells_toList, hzs]) (grownCap_ge W _ _ _)
    exact ⟨_, _, _, hrun, g1, g2, hE1.trans ((Ext.drew _ W).trans g3)⟩

theorem readL_get : ∀ {n i : Nat} {c : PM Value} {l : List Value}, readL c n i = some l → l.length = n ∧ ∀ k w, l[k]? = some w → c.get (i + k) = some w
  | 0, i, c, l, h => by cases h; exact ⟨rfl, by simp⟩
  | n + 1, i, c, l, h => by
    unfold readL at h
    split at h
    · rename_i v hv
      split at h
      · rename_i l' hl'
        cases h
        obtain ⟨h1, h2⟩ := readL_get hl'
        refine ⟨by simp [h1], fun k w hk => ?_⟩
        cases k with
        | zero => simp at hk; subst hk; exact hv
        | succ k =>
          rw [show i + (k + 1) = i + 1 + k from by omega]
          exact h2 k w (by simpa using hk)
      · cases h
    · cases h

theorem appendA_runs {t ty e : TypeId} {es by_ m : Nat} {z s c v : Value} {xs cxs : List Value} (hu : P.underlying t = some (.slice e)) (hs : sizeT P e = some es) (hb : bytesT P e = some by_) (hz : zeroT P e = some z)
    (hzs : (cellsL z).length = es) (hb0 : 0 < by_) (hR : Rel γ M W) (hsc : VR γ s c)
    (hx : LR γ xs cxs) (hx1 : ∀ u ∈ xs, u.oneCell' = true) (hxl : xs.length = m * es) (xa : Option Addr) (cx : Nat) (hxa : m = 0 ∨ ∃ ad, xa = some ad ∧ ∀ (j : Nat) u, cxs[j]? = some u → W.cell? (ad.add j) = some u)
    (h : appendA M es by_ s m xs = some (v, M')) :
    ∃ cv W' γ', (Builtin.append_ #[t, t] ty #[c, .slice xa m cx]).run P W = .ok cv W' ∧ VR γ' v cv ∧ Rel γ' M' W' ∧ Ext γ M W γ' M' W' := by
  obtain ⟨i, hi, hzi, hpl⟩ := zeroT_spec hz
  have hbi : i.bytes = by_ := by unfold bytesT at hb; rw [hi] at hb; simpa using hb
  have hsi : i.size = es := by unfold sizeT at hs; rw [hi] at hs; simpa using hs
  unfold appendA at h
  split at h
  · rename_i k
    obtain ⟨_, _, hc⟩ := hsc.sliceNil
    subst hc
    by_cases hm : m = 0
    · subst hm
      have h' : some (Value.slice none 0 k, M) = some (v, M') := h
      cases h'
      have : k = 0 := (hsc.sliceNil).2.1
      subst this
      exact ⟨_, W, γ, run_append_zero hu hs W none 0 0 (Nat.le_refl _) xa cx, .atom rfl, hR, Ext.refl γ M W⟩
    · rw [beq_false hm] at h
      have h' : (bif Nat.ble (m * by_) 1099511627776 then (match newArr M xs es with | some (r, M') => some (Value.slice (some ⟨r, 0, none⟩) m 0, M') | none => none) else none) = some (v, M') := h
      obtain ⟨h1, h2⟩ := cond_opt h'
      rw [Nat.ble_eq] at h1
      split at h2
      · rename_i r M2 hM2
        cases h2
        obtain ⟨ad, hxa, hnews⟩ := hxa.resolve_left hm
        subst hxa
        have hcl := hx.length
        have hmb : m ≤ m * by_ := Nat.le_mul_of_pos_right m hb0
        have hrun := run_append_nil (P := P) W t ty e i z hu hi hzi ad m cx cxs (by rw [hsi, ← hcl, hxl]) hnews (by omega) (by omega) (by rw [hbi]; omega)
        obtain ⟨rfl, k1, k2⟩ := newArr_more hR.drew hM2 hx (Builtin.zeroCells z.cells (grownCap W m 0 e - m)).toList e
        have hw : (cxs.toArray ++ Builtin.zeroCells z.cells (grownCap W m 0 e - m)) = (cxs ++ (Builtin.zeroCells z.cells (grownCap W m 0 e - m)).toList).toArray := by
          apply Array.ext'; simp
        rw [hw] at hrun
        refine ⟨_, _, _, hrun, ?_, k1, (Ext.drew M W).trans k2⟩
        refine .slice (g := ⟨W.drew.heap.size, 0, cxs.length + (Builtin.zeroCells z.cells (grownCap W m 0 e - m)).toList.length, es⟩) (upd_same _ _ _) (grownCap_ge W _ _ _) ?_
        show 0 + grownCap W m 0 e * es ≤ cxs.length + (Builtin.zeroCells z.cells (grownCap W m 0 e - m)).toList.length
        have hz2 : (Builtin.zeroCells z.cells (grownCap W m 0 e - m)).toList.length = (grownCap W m 0 e - m) * es := by
          rw [Array.length_toList, size_zeroCells, ← Array.length_toList, cells_toList, hzs]
        rw [hz2, ← hcl, hxl, ← Nat.add_mul]
        have := grownCap_ge W m 0 e
        rw [show m + (grownCap W m 0 e - m) = grownCap W m 0 e from by omega]
        omega
      · cases h2
  · rename_i r o len k
    by_cases hm : m = 0
    · subst hm
      have h' : some (Value.slice (some ⟨r, o, none⟩) len k, M) = some (v, M') := h
      cases h'
      obtain ⟨b, cap, hc⟩ := hsc.sliceLen
      have hle : len ≤ cap := by
        obtain ⟨g, _, ⟨cap', e1, e2, _⟩ | ⟨e1, b', e2⟩⟩ := hsc.slice_inv
        · rw [hc] at e1; cases e1; exact e2
        · rw [hc] at e2; cases e2; exact Nat.le_refl _
      rw [hc]
      exact ⟨_, W, γ, run_append_zero hu hs W b len cap hle xa cx, hc ▸ hsc, hR, Ext.refl γ M W⟩
    · rw [beq_false hm] at h
      have h0 : (match M.h.get r with
        | some (.arr a) =>
          bif a.own && Nat.beq a.es es && Nat.ble (o + len * es) a.n && Nat.ble ((len + m) * by_) 1099511627776 && allOne xs && Nat.blt 0 es then
            (bif Nat.beq o 0 && Nat.beq (o + len * es) a.n then
              some (Value.slice (some ⟨M.nx, 0, none⟩) (len + m) 0,
                (⟨(M.h.set r (.arr { a with own := false, sv := lwOf M a.grp })).set M.nx (.arr ⟨PM.ofList a.cells xs (o + len * es), o + len * es + xs.length, es, true, true, a.grp, 0⟩), M.nx + 1, M.lw⟩ : Mem))
            else match readL a.cells (len * es) o with
              | some old =>
                some (Value.slice (some ⟨M.nx, 0, none⟩) (len + m) 0,
                  (⟨(M.h.set r (.arr { a with own := false, sv := lwOf M a.grp })).set M.nx (.arr ⟨PM.ofList .lf (old ++ xs) 0, len * es + xs.length, es, true, true, a.grp, 0⟩), M.nx + 1,
                    bif Nat.beq (o + len * es) a.n then M.lw else M.lw.set a.grp (lwOf M a.grp + 1)⟩ : Mem))
              | none => none)
          else none
        | _ => none) = some (v, M') := h
      split at h0
      · rename_i ar har
        obtain ⟨h1, h2⟩ := cond_opt h0
        simp only [Bool.and_eq_true, Nat.ble_eq] at h1
        obtain ⟨⟨⟨⟨⟨h1, h3⟩, h4⟩, h5⟩, _⟩, _⟩ := h1
        have h3 := Nat.eq_of_beq_eq_true h3
        obtain ⟨g, hg, hcc0⟩ := hsc.slice_inv
        obtain ⟨Q, hQ, hcc⟩ : ∃ Q : Prop, (Q → _) ∧ Q := ⟨_, id, hcc0⟩
        clear hcc0
        obtain ⟨ad, hxa, hnews⟩ := hxa.resolve_left hm
        subst hxa
        have hmb : len + m ≤ (len + m) * by_ := Nat.le_mul_of_pos_right _ hb0
        have hheld : ∀ k w, ar.cells.get k = some w → k < ar.n := by
          obtain ⟨x0, q1, q2⟩ := hR.obj r g hg
          rw [har] at q1
          cases q1
          obtain ⟨_, _, _, _, _, w4⟩ := q2.2 (by rw [valid_iff]; exact .inl h1)
          exact fun k w hk => (w4 k w hk).1
        by_cases hfast : (Nat.beq o 0 && Nat.beq (o + len * es) ar.n) = true
        · rw [hfast] at h2
          cases h2
          rw [Bool.and_eq_true] at hfast
          have f1 := Nat.eq_of_beq_eq_true hfast.1
          have f2 := Nat.eq_of_beq_eq_true hfast.2
          obtain ⟨cv, W', γ', r1, r2, r3, r4⟩ := append_world (P := P) (t := t) (ty := ty) (arr := ⟨PM.ofList ar.cells xs (o + len * es), o + len * es + xs.length, es, true, true, ar.grp, 0⟩) hu hi hzi hzs hsi hbi hR hg har h1 h3 h4 (Nat.pos_of_ne_zero hm) h5 (Nat.le_trans hmb h5) hx hx1 hxl ad cx hnews
            ⟨rfl, rfl, rfl, rfl, by show o + len * es + xs.length = _; omega⟩ (fun k w hk => by
              have hk' : (PM.ofList ar.cells xs (o + len * es)).get k = some w := hk
              rw [PM.get_ofList] at hk'
              split at hk'
              · exact .inr ⟨by omega, by rw [show k - len * es = k - (o + len * es) from by omega]; exact hk'⟩
              · have := hheld k w hk'
                exact .inl ⟨by omega, by rw [f1, Nat.zero_add]; exact hk'⟩) (hQ hcc)
          rw [hfast.2] at r3 r4
          exact ⟨cv, W', γ', r1, r2, r3, r4⟩
        · rw [Bool.not_eq_true] at hfast
          rw [hfast] at h2
          have h2' : (match readL ar.cells (len * es) o with
              | some old =>
                some (Value.slice (some ⟨M.nx, 0, none⟩) (len + m) 0,
                  (⟨(M.h.set r (.arr { ar with own := false, sv := lwOf M ar.grp })).set M.nx (.arr ⟨PM.ofList .lf (old ++ xs) 0, len * es + xs.length, es, true, true, ar.grp, 0⟩), M.nx + 1,
                    bif Nat.beq (o + len * es) ar.n then M.lw else M.lw.set ar.grp (lwOf M ar.grp + 1)⟩ : Mem))
              | none => none) = some (v, M') := h2
          split at h2'
          · rename_i old hold
            cases h2'
            obtain ⟨l1, l2⟩ := readL_get hold
            exact append_world (P := P) (t := t) (ty := ty) (arr := ⟨PM.ofList .lf (old ++ xs) 0, len * es + xs.length, es, true, true, ar.grp, 0⟩) hu hi hzi hzs hsi hbi hR hg har h1 h3 h4 (Nat.pos_of_ne_zero hm) h5 (Nat.le_trans hmb h5) hx hx1 hxl ad cx hnews
              ⟨rfl, rfl, rfl, rfl, rfl⟩ (fun k w hk => by
                have hk' : (PM.ofList PM.lf (old ++ xs) 0).get k = some w := hk
                rw [PM.get_ofList] at hk'
                split at hk'
                · rw [Nat.sub_zero, List.getElem?_append] at hk'
                  split at hk'
                  · exact .inl ⟨by omega, l2 k w hk'⟩
                  · exact .inr ⟨by omega, by rw [← l1]; exact hk'⟩
                · cases hk') (hQ hcc)
          · cases h2'
      · cases h0
  · cases h

theorem app_runs {t ty e : TypeId} {es by_ : Nat} {z : Value} {s x : Operand} {s' x' : Opd} (hu : P.underlying t = some (.slice e)) (hs : sizeT P e = some es) (hb : bytesT P e = some by_) (hz : zeroT P e = some z)
    (hzs : (cellsL z).length = es) (hb0 : 0 < by_) (hso : opd s = some s') (hxo : opd x = some x') (hT : TR γ T a.tmps) (hR : Rel γ M W) (h : step T M (.app es by_ s' x') = some (v, M')) :
    Runs P (do pure (.value (← Builtin.append_ #[t, t] ty #[a.eval s, a.eval x]))) W γ M v M' := by
  simp only [step] at h
  have hvx := opd_ev hxo hT
  split at h
  · rename_i k e0
    rw [e0] at hvx
    obtain ⟨_, _, hc⟩ := hvx.sliceNil
    rw [hc]
    obtain ⟨cv, W', γ', r1, r2⟩ := appendA_runs (P := P) (t := t) (ty := ty) (xs := []) (cxs := []) hu hs hb hz hzs hb0 hR (opd_ev hso hT) (show LR γ [] [] from trivial) (by simp) (by simp) none 0 (.inl rfl) h
    exact ⟨cv, W', γ', .inl (run_v r1), r2⟩
  · rename_i r o m k e0
    split at h
    · rename_i ar har
      split at h
      · rename_i xs hxs
        rw [e0] at hvx
        obtain ⟨g, hg, hc⟩ := hvx.slice_inv
        obtain ⟨_, hh, _⟩ := arrOf_held hR hg har
        obtain ⟨cl, k1, k2, k3, k4, _⟩ := readL_cells hh hxs
        rcases hc with ⟨cap, hc, _, _⟩ | ⟨hm, b, hc⟩
        · rw [hc]
          obtain ⟨cv, W', γ', r1, r2⟩ := appendA_runs (P := P) (t := t) (ty := ty) hu hs hb hz hzs hb0 hR (opd_ev hso hT) k1 k4 k2 (some ⟨g.blk, g.base + o, none⟩) cap
            (.inr ⟨_, rfl, fun j u hj => by rw [Addr.add_mid]; exact k3 j u hj⟩) h
          exact ⟨cv, W', γ', .inl (run_v r1), r2⟩
        · subst hm
          rw [hc]
          obtain ⟨cv, W', γ', r1, r2⟩ := appendA_runs (P := P) (t := t) (ty := ty) hu hs hb hz hzs hb0 hR (opd_ev hso hT) k1 k4 k2 (some b) 0 (.inl rfl) h
          exact ⟨cv, W', γ', .inl (run_v r1), r2⟩
      · cases h
    · cases h
  · cases h

theorem cpy_runs {t u ty e : TypeId} {es : Nat} {d s : Operand} {d' s' : Opd} (hu : P.underlying t = some (.slice e)) (hs : sizeT P e = some (es + 1)) (hd : opd d = some d') (hso : opd s = some s')
    (hT : TR γ T a.tmps) (hR : Rel γ M W) (h : step T M (.cpy (es + 1) d' s') = some (v, M')) : Runs P (do pure (.value (← Builtin.copy_ #[t, u] ty #[a.eval d, a.eval s]))) W γ M v M' := by
  simp only [step] at h
  have hvd := opd_ev hd hT
  have hvs := opd_ev hso hT
  have zero : ∀ (b b2 : Option Addr) (n c k c2 : Nat), Nat.min k n = 0 → (Builtin.copy_ #[t, u] ty #[.slice b n c, .slice b2 k c2]).run P W = .ok (.int .i64 0) W := by
    intro b b2 n c k c2 h0
    cases b <;> cases b2 <;> simp [Builtin.copy_, run_underlying hu, Builtin.lenOf, h0, sizeT_run hs, Builtin.firstCells, loadCells, loadCellsFrom, storeCells, goInt]
  split at h
  · rename_i r o dl k1 r2 o2 sl k2 e1 e2
    rw [e1] at hvd
    rw [e2] at hvs
    have hmin : (bif Nat.ble sl dl then sl else dl) = Nat.min sl dl := by
      by_cases hle : sl ≤ dl
      · have : Nat.ble sl dl = true := by rw [Nat.ble_eq]; exact hle
        rw [this]; exact (Nat.min_eq_left hle).symm
      · have : Nat.ble sl dl = false := by
          cases hb : Nat.ble sl dl with
          | false => rfl
          | true => rw [Nat.ble_eq] at hb; exact absurd hb hle
        rw [this]; exact (Nat.min_eq_right (Nat.le_of_lt (Nat.lt_of_not_le hle))).symm
    rw [hmin] at h
    by_cases h0 : Nat.min sl dl = 0
    · rw [h0] at h
      have h' : some (Value.int .i64 0, M) = some (v, M') := h
      cases h'
      obtain ⟨b, c, hb⟩ := hvd.sliceLen
      obtain ⟨b2, c2, hb2⟩ := hvs.sliceLen
      rw [hb, hb2]
      exact Runs.v (zero _ _ _ _ _ _ h0) (.atom rfl) hR
    · rw [beq_false h0] at h
      have h' : (match arrOf M r2 with
        | some a => match readL a.cells (Nat.min sl dl * (es + 1)) o2 with
          | some xs => match storeC M r o xs with
            | some M' => some (Value.int .i64 (.ofNat (Nat.min sl dl)), M')
            | none => none
          | none => none
        | none => none) = some (v, M') := h
      split at h'
      · rename_i ar har
        split at h'
        · rename_i xs hxs
          split at h'
          · rename_i M2 hM2
            cases h'
            have hpos1 : 0 < sl := by
              rcases Nat.eq_zero_or_pos sl with h1 | h1
              · subst h1; exact absurd (Nat.zero_min dl) h0
              · exact h1
            have hpos2 : 0 < dl := by
              rcases Nat.eq_zero_or_pos dl with h1 | h1
              · subst h1; exact absurd (Nat.min_zero sl) h0
              · exact h1
            obtain ⟨g, cap, hg, hc, _, _⟩ := hvd.slice_pos hpos2
            obtain ⟨g2, cap2, hg2, hc2, _, _⟩ := hvs.slice_pos hpos1
            obtain ⟨_, hh, _⟩ := arrOf_held hR hg2 har
            obtain ⟨cl, k1, k2, k3, k4, _⟩ := readL_cells hh hxs
            have hxp : 0 < xs.length := by rw [k2]; exact Nat.mul_pos (Nat.pos_of_ne_zero h0) (Nat.succ_pos _)
            obtain ⟨W', r1, r2', r3⟩ := store_rel (P := P) hR hg k1 hxp hM2
            rw [hc, hc2]
            refine ⟨.int .i64 (Nat.min sl dl : Nat), W', γ, .inl (run_v ?_), .atom rfl, r2', r3⟩
            have hf := run_firstCells_some (P := P) W (es + 1) (Nat.min sl dl) ⟨g2.blk, g2.base + o2, none⟩ sl cap2 cl (by rw [← k1.length, k2]) (fun j u hj => by rw [Addr.add_mid]; exact k3 j u hj)
            simp [Builtin.copy_, run_underlying hu, Builtin.lenOf, sizeT_run hs, hf, r1, goInt]
          · cases h'
        · cases h'
      · cases h'
  · rename_i b n c k e1 e2
    cases h
    rw [e1] at hvd
    rw [e2] at hvs
    obtain ⟨b', c', hb⟩ := hvd.sliceLen
    obtain ⟨_, _, hb2⟩ := hvs.sliceNil
    rw [hb, hb2]
    exact Runs.v (zero _ _ _ _ _ _ (Nat.zero_min _)) (.atom rfl) hR
  · rename_i k b n c _ e1 e2
    cases h
    rw [e1] at hvd
    rw [e2] at hvs
    obtain ⟨_, _, hb⟩ := hvd.sliceNil
    obtain ⟨b2, c2, hb2⟩ := hvs.sliceLen
    rw [hb, hb2]
    exact Runs.v (zero _ _ _ _ _ _ (Nat.min_zero _)) (.atom rfl) hR
  · cases h
end Go.Ai
