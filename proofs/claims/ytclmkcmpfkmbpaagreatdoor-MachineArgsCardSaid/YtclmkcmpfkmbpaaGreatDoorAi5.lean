/-
  The abstract interpreter: how its values and memory stand to the model's; the trie's laws.
-/
import Derived.Test.YtclmkcmpfkmbpaaGreatDoorAi2
import Derived.Laws.Append
import Derived.Laws.AppendOwn
import Derived.Laws.CopyRow
import Derived.Deep.MidRow
set_option linter.unusedSectionVars false
namespace Go.Ai
open Go

theorem beq_false {a b : Nat} (h : a ≠ b) : Nat.beq a b = false := by
  cases e : Nat.beq a b with
  | false => rfl
  | true => exact absurd (Nat.eq_of_beq_eq_true e) h

namespace PM
variable {α : Type}
theorem get_nd (l r : PM α) (v : Option α) (n : Nat) : (nd l v r).get n = if n = 0 then v else if n % 2 = 1 then l.get (n / 2) else r.get (n / 2 - 1) := by
  rw [get]
  by_cases h : n = 0
  · subst h; rfl
  · have h1 : Nat.beq n 0 = false := beq_false h
    rw [h1, if_neg h]
    by_cases h2 : n % 2 = 1
    · have h3 : Nat.beq (n % 2) 1 = true := by rw [h2]; rfl
      rw [h3, if_pos h2]; rfl
    · have h3 : Nat.beq (n % 2) 1 = false := beq_false h2
      rw [h3, if_neg h2]; rfl
theorem get_lf (n : Nat) : (lf : PM α).get n = none := rfl
theorem get_one (v : α) : ∀ (f n j : Nat), n ≤ f → (one v f n).get j = if j = n then some v else none := by
  intro f
  induction f with
  | zero =>
    intro n j h
    obtain rfl : n = 0 := by omega
    rw [one, get_nd]
    split
    · rfl
    · split <;> rfl
  | succ f ih =>
    intro n j h
    rw [one]
    by_cases h0 : n = 0
    · subst h0
      show (nd lf (some v) lf).get j = _
      rw [get_nd]
      split
      · rfl
      · split <;> rfl
    · have h1 : Nat.beq n 0 = false := beq_false h0
      rw [h1]
      by_cases h2 : n % 2 = 1
      · have h3 : Nat.beq (n % 2) 1 = true := by rw [h2]; rfl
        rw [h3]
        show (nd (one v f (n / 2)) none lf).get j = _
        rw [get_nd, ih (n / 2) (j / 2) (by omega)]
        by_cases hj : j = 0
        · rw [if_pos hj, if_neg (by omega)]
        · rw [if_neg hj]
          by_cases hj2 : j % 2 = 1
          · rw [if_pos hj2]
            by_cases e : j = n
            · rw [if_pos (by omega), if_pos e]
            · rw [if_neg (by omega), if_neg e]
          · rw [if_neg hj2, if_neg (by omega)]; rfl
      · have h3 : Nat.beq (n % 2) 1 = false := beq_false h2
        rw [h3]
        show (nd lf none (one v f (n / 2 - 1))).get j = _
        rw [get_nd, ih (n / 2 - 1) (j / 2 - 1) (by omega)]
        by_cases hj : j = 0
        · rw [if_pos hj, if_neg (by omega)]
        · rw [if_neg hj]
          by_cases hj2 : j % 2 = 1
          · rw [if_pos hj2, if_neg (by omega)]; rfl
          · rw [if_neg hj2]
            by_cases e : j = n
            · rw [if_pos (by omega), if_pos e]
            · rw [if_neg (by omega), if_neg e]
theorem get_set (v : α) : ∀ (m : PM α) (n j : Nat), (m.set n v).get j = if j = n then some v else m.get j := by
  intro m
  induction m with
  | lf => intro n j; rw [set, get_one v n n j (Nat.le_refl _)]; rfl
  | nd l x r ihl ihr =>
    intro n j
    rw [set]
    by_cases h0 : n = 0
    · subst h0
      show (nd l (some v) r).get j = _
      rw [get_nd, get_nd]
      split <;> rfl
    · have h1 : Nat.beq n 0 = false := beq_false h0
      rw [h1]
      by_cases h2 : n % 2 = 1
      · have h3 : Nat.beq (n % 2) 1 = true := by rw [h2]; rfl
        rw [h3]
        show (nd (l.set (n / 2) v) x r).get j = _
        rw [get_nd, get_nd, ihl]
        by_cases hj : j = 0
        · rw [if_pos hj, if_pos hj, if_neg (by omega)]
        · rw [if_neg hj, if_neg hj]
          by_cases hj2 : j % 2 = 1
          · rw [if_pos hj2, if_pos hj2]
            by_cases e : j = n
            · rw [if_pos (by omega), if_pos e]
            · rw [if_neg (by omega), if_neg e]
          · rw [if_neg hj2, if_neg hj2, if_neg (by omega)]
      · have h3 : Nat.beq (n % 2) 1 = false := beq_false h2
        rw [h3]
        show (nd l x (r.set (n / 2 - 1) v)).get j = _
        rw [get_nd, get_nd, ihr]
        by_cases hj : j = 0
        · rw [if_pos hj, if_pos hj, if_neg (by omega)]
        · rw [if_neg hj, if_neg hj]
          by_cases hj2 : j % 2 = 1
          · rw [if_pos hj2, if_pos hj2, if_neg (by omega)]
          · rw [if_neg hj2, if_neg hj2]
            by_cases e : j = n
            · rw [if_pos (by omega), if_pos e]
            · rw [if_neg (by omega), if_neg e]
theorem set_same (v : α) (m : PM α) (n : Nat) : (m.set n v).get n = some v := by rw [get_set, if_pos rfl]
theorem set_other (v : α) (m : PM α) {n j : Nat} (h : j ≠ n) : (m.set n v).get j = m.get j := by rw [get_set, if_neg h]
theorem get_ofList : ∀ (l : List α) (m : PM α) (i j : Nat), (ofList m l i).get j = if i ≤ j ∧ j < i + l.length then l[j - i]? else m.get j := by
  intro l
  induction l with
  | nil => intro m i j; rw [ofList, if_neg (by rw [List.length_nil]; omega)]
  | cons x xs ih =>
    intro m i j
    rw [ofList, ih, get_set]
    by_cases h : i + 1 ≤ j ∧ j < i + 1 + xs.length
    · rw [if_pos h, if_pos (by simp; omega)]
      obtain ⟨k, rfl⟩ : ∃ k, j = i + 1 + k := ⟨j - (i + 1), by omega⟩
      have e1 : i + 1 + k - (i + 1) = k := by omega
      have e2 : i + 1 + k - i = k + 1 := by omega
      rw [e1, e2]; rfl
    · rw [if_neg h]
      by_cases e : j = i
      · subst e
        rw [if_pos rfl, if_pos (by simp)]; simp
      · rw [if_neg e, if_neg (by simp; omega)]
end PM

/-- Where an abstract row lies: a block, the cell at which it begins, how many cells it may take there, and how many an element has. -/
structure G where
  blk : Nat
  base : Nat
  room : Nat
  es : Nat

abbrev Gm := Nat → Option G

def atomV : Value → Bool
  | .bool _ | .int .. | .complex .f64 _ _ | .string _ => true
  | .pointer none | .map none | .nilFunc | .nilIface => true
  | .slice none 0 0 => true
  | _ => false

/-- What the symbols stand for. -/
class Sig where
  val : Nat → Int
variable [Sig]

/-- What may be let go. -/
def junkV : Value → Bool
  | .int .. | .pointer _ => true
  | _ => false

inductive VR (γ : Gm) : Value → Value → Prop where
  | top {c : Value} (h : junkV c = true) : VR γ (.chan none) c
  | symI {i : Nat} : VR γ (.float .f32 i) (.int .i64 (Sig.val i))
  | symS {r i len cap : Nat} {g : G} (h : γ r = some g) (hn : Sig.val i = (len : Int)) (hc : len ≤ cap) : VR γ (.complex .f32 r i) (.slice (some ⟨g.blk, g.base, none⟩) len cap)
  | atom {v : Value} (h : atomV v = true) : VR γ v v
  | ptr {r o : Nat} {g : G} (h : γ r = some g) : VR γ (.pointer (some ⟨r, o, none⟩)) (.pointer (some ⟨g.blk, g.base + o, none⟩))
  | slice {r o len c cap : Nat} {g : G} (h : γ r = some g) (hc : len ≤ cap) (hr : o + cap * g.es ≤ g.room) :
      VR γ (.slice (some ⟨r, o, none⟩) len c) (.slice (some ⟨g.blk, g.base + o, none⟩) len cap)
  | sliceE {r o c : Nat} {g : G} {b : Addr} (h : γ r = some g) : VR γ (.slice (some ⟨r, o, none⟩) 0 c) (.slice (some b) 0 0)
  | map {r : Nat} {g : G} (h : γ r = some g) : VR γ (.map (some r)) (.map (some g.blk))
  | func {f : FuncId} {a b c d : Array Value} (h1 : a.size = c.size) (h2 : ∀ (i : Nat) x y, a[i]? = some x → c[i]? = some y → VR γ x y)
      (h3 : b.size = d.size) (h4 : ∀ (i : Nat) x y, b[i]? = some x → d[i]? = some y → VR γ x y) : VR γ (.func (.func f) a b) (.func (.func f) c d)
  | iface {t : TypeId} {v w : Value} (h : VR γ v w) : VR γ (.iface t v) (.iface t w)
  | agg {a b : Array Value} (h1 : a.size = b.size) (h2 : ∀ (i : Nat) x y, a[i]? = some x → b[i]? = some y → VR γ x y) : VR γ (.agg a) (.agg b)
  | tuple {a b : Array Value} (h1 : a.size = b.size) (h2 : ∀ (i : Nat) x y, a[i]? = some x → b[i]? = some y → VR γ x y) : VR γ (.tuple a) (.tuple b)

def Le (γ γ' : Gm) : Prop := ∀ r g, γ r = some g → γ' r = some g
theorem Le.refl (γ : Gm) : Le γ γ := fun _ _ h => h
theorem Le.trans {a b c : Gm} (h : Le a b) (k : Le b c) : Le a c := fun r g e => k r g (h r g e)

theorem VR.mono {γ γ' : Gm} (hl : Le γ γ') {a b : Value} (h : VR γ a b) : VR γ' a b := by
  induction h with
  | top h => exact .top h
  | symI => exact .symI
  | symS h hn hc => exact .symS (hl _ _ h) hn hc
  | atom h => exact .atom h
  | ptr h => exact .ptr (hl _ _ h)
  | slice h hc hr => exact .slice (hl _ _ h) hc hr
  | sliceE h => exact .sliceE (hl _ _ h)
  | map h => exact .map (hl _ _ h)
  | func h1 _ h3 _ ih2 ih4 => exact .func h1 ih2 h3 ih4
  | iface _ ih => exact .iface ih
  | agg h1 _ ih => exact .agg h1 ih
  | tuple h1 _ ih => exact .tuple h1 ih

/-- Lists of values, one by one. -/
def LR (γ : Gm) : List Value → List Value → Prop
  | [], [] => True
  | a :: l, b :: m => VR γ a b ∧ LR γ l m
  | _, _ => False
theorem LR.length {γ : Gm} : ∀ {l m : List Value}, LR γ l m → l.length = m.length
  | [], [], _ => rfl
  | _ :: _, _ :: _, h => by simp [LR.length h.2]
  | [], _ :: _, h => h.elim
  | _ :: _, [], h => h.elim
theorem LR.mono {γ γ' : Gm} (hl : Le γ γ') : ∀ {l m : List Value}, LR γ l m → LR γ' l m
  | [], [], _ => trivial
  | _ :: _, _ :: _, h => ⟨h.1.mono hl, LR.mono hl h.2⟩
  | [], _ :: _, h => h.elim
  | _ :: _, [], h => h.elim
theorem LR.get {γ : Gm} : ∀ {l m : List Value}, LR γ l m → ∀ (i : Nat) x, l[i]? = some x → ∃ y, m[i]? = some y ∧ VR γ x y
  | [], [], _, _, _, h => by simp at h
  | a :: l, b :: m, h, 0, x, e => by simp at e; subst e; exact ⟨b, by simp, h.1⟩
  | a :: l, b :: m, h, i + 1, x, e => by simp at e; obtain ⟨y, h1, h2⟩ := LR.get h.2 i x e; exact ⟨y, by simpa using h1, h2⟩
  | [], _ :: _, h, _, _, _ => h.elim
  | _ :: _, [], h, _, _, _ => h.elim
theorem LR.mk {γ : Gm} : ∀ {l m : List Value}, l.length = m.length → (∀ (i : Nat) x y, l[i]? = some x → m[i]? = some y → VR γ x y) → LR γ l m
  | [], [], _, _ => trivial
  | a :: l, b :: m, h, k => ⟨k 0 a b rfl rfl, LR.mk (by simpa using h) (fun i x y hx hy => k (i + 1) x y (by simpa using hx) (by simpa using hy))⟩
  | [], _ :: _, h, _ => by simp at h
  | _ :: _, [], h, _ => by simp at h
theorem LR.append {γ : Gm} : ∀ {l m l' m' : List Value}, LR γ l m → LR γ l' m' → LR γ (l ++ l') (m ++ m')
  | [], [], _, _, _, k => k
  | _ :: _, _ :: _, _, _, h, k => ⟨h.1, LR.append h.2 k⟩
  | [], _ :: _, _, _, h, _ => h.elim
  | _ :: _, [], _, _, h, _ => h.elim
theorem LR.take {γ : Gm} {l m : List Value} (h : LR γ l m) (n : Nat) : LR γ (l.take n) (m.take n) := by
  refine LR.mk (by simp [h.length]) fun i x y hx hy => ?_
  rw [List.getElem?_take] at hx hy
  split at hx
  · rename_i hi
    rw [if_pos hi] at hy
    obtain ⟨z, hz, hv⟩ := h.get i x hx
    rw [hz] at hy
    cases hy
    exact hv
  · cases hx
theorem LR.drop {γ : Gm} {l m : List Value} (h : LR γ l m) (n : Nat) : LR γ (l.drop n) (m.drop n) := by
  refine LR.mk (by simp [h.length]) fun i x y hx hy => ?_
  rw [List.getElem?_drop] at hx hy
  obtain ⟨z, hz, hv⟩ := h.get _ x hx
  rw [hz] at hy
  cases hy
  exact hv
theorem VR.agg_list {γ : Gm} {a b : Array Value} (h : LR γ a.toList b.toList) : VR γ (.agg a) (.agg b) :=
  .agg (by simpa using h.length) fun i x y hx hy => by
    obtain ⟨z, hz, hv⟩ := h.get i x (by simpa using hx)
    have : b[i]? = some z := by simpa using hz
    rw [this] at hy; cases hy; exact hv
theorem VR.tuple_list {γ : Gm} {a b : Array Value} (h : LR γ a.toList b.toList) : VR γ (.tuple a) (.tuple b) :=
  .tuple (by simpa using h.length) fun i x y hx hy => by
    obtain ⟨z, hz, hv⟩ := h.get i x (by simpa using hx)
    have : b[i]? = some z := by simpa using hz
    rw [this] at hy; cases hy; exact hv

/- What stands opposite a value of a kind. -/
section
variable {γ : Gm} {c : Value}
theorem VR.int {k : IntKind} {n : Int} (h : VR γ (.int k n) c) : c = .int k n := by cases h; rfl
theorem VR.bool {b : Bool} (h : VR γ (.bool b) c) : c = .bool b := by cases h; rfl
theorem VR.string {s : ByteArray} (h : VR γ (.string s) c) : c = .string s := by cases h; rfl
theorem VR.sym_inv {i : Nat} (h : VR γ (.float .f32 i) c) : c = .int .i64 (Sig.val i) := by
  cases h with
  | symI => rfl
  | atom h => cases h
theorem VR.symS_inv {r i : Nat} (h : VR γ (.complex .f32 r i) c) : ∃ g len cap, γ r = some g ∧ Sig.val i = ((len : Nat) : Int) ∧ len ≤ cap ∧ c = .slice (some ⟨g.blk, g.base, none⟩) len cap := by
  cases h with
  | symS h hn hc => exact ⟨_, _, _, h, hn, hc, rfl⟩
  | atom h => cases h
theorem VR.ptrNil (h : VR γ (.pointer none) c) : c = .pointer none := by cases h; rfl
theorem VR.ptr_inv {r o : Nat} (h : VR γ (.pointer (some ⟨r, o, none⟩)) c) : ∃ g, γ r = some g ∧ c = .pointer (some ⟨g.blk, g.base + o, none⟩) := by
  cases h with
  | atom h => simp [atomV] at h
  | ptr h => exact ⟨_, h, rfl⟩
theorem VR.ptrSome {a : Addr} (h : VR γ (.pointer (some a)) c) : ∃ b, c = .pointer (some b) := by
  cases h with
  | atom h => simp [atomV] at h
  | ptr h => exact ⟨_, rfl⟩
theorem VR.sliceNil {n m : Nat} (h : VR γ (.slice none n m) c) : n = 0 ∧ m = 0 ∧ c = .slice none 0 0 := by
  cases h with
  | atom h =>
    unfold atomV at h
    split at h <;> simp_all
theorem VR.slice_inv {r o len k : Nat} (h : VR γ (.slice (some ⟨r, o, none⟩) len k) c) :
    ∃ g, γ r = some g ∧ ((∃ cap, c = .slice (some ⟨g.blk, g.base + o, none⟩) len cap ∧ len ≤ cap ∧ o + cap * g.es ≤ g.room) ∨ (len = 0 ∧ ∃ b, c = .slice (some b) 0 0)) := by
  cases h with
  | atom h => simp [atomV] at h
  | slice h hc hr => exact ⟨_, h, .inl ⟨_, rfl, hc, hr⟩⟩
  | sliceE h => exact ⟨_, h, .inr ⟨rfl, _, rfl⟩⟩
theorem VR.slice_pos {r o len k : Nat} (h : VR γ (.slice (some ⟨r, o, none⟩) len k) c) (hl : 0 < len) :
    ∃ g cap, γ r = some g ∧ c = .slice (some ⟨g.blk, g.base + o, none⟩) len cap ∧ len ≤ cap ∧ o + cap * g.es ≤ g.room := by
  obtain ⟨g, h1, ⟨cap, h2⟩ | ⟨h2, _⟩⟩ := h.slice_inv
  · exact ⟨g, cap, h1, h2⟩
  · omega
theorem VR.sliceLen {a : Option Addr} {len k : Nat} (h : VR γ (.slice a len k) c) : ∃ b cap, c = .slice b len cap := by
  cases h with
  | atom h => exact ⟨_, _, rfl⟩
  | slice h hc hr => exact ⟨_, _, rfl⟩
  | sliceE h => exact ⟨_, _, rfl⟩
theorem VR.mapNil (h : VR γ (.map none) c) : c = .map none := by cases h; rfl
theorem VR.map_inv {r : Nat} (h : VR γ (.map (some r)) c) : ∃ g, γ r = some g ∧ c = .map (some g.blk) := by
  cases h with
  | atom h => simp [atomV] at h
  | map h => exact ⟨_, h, rfl⟩
theorem VR.agg_inv {a : Array Value} (h : VR γ (.agg a) c) : ∃ b, c = .agg b ∧ LR γ a.toList b.toList := by
  cases h with
  | atom h => simp [atomV] at h
  | agg h1 h2 => exact ⟨_, rfl, LR.mk (by simpa using h1) (by simpa using h2)⟩
theorem VR.tuple_inv {a : Array Value} (h : VR γ (.tuple a) c) : ∃ b, c = .tuple b ∧ LR γ a.toList b.toList := by
  cases h with
  | atom h => simp [atomV] at h
  | tuple h1 h2 => exact ⟨_, rfl, LR.mk (by simpa using h1) (by simpa using h2)⟩
theorem VR.iface_inv {t : TypeId} {v : Value} (h : VR γ (.iface t v) c) : ∃ w, c = .iface t w ∧ VR γ v w := by
  cases h with
  | atom h => simp [atomV] at h
  | iface h => exact ⟨_, rfl, h⟩
theorem VR.one {a : Value} (h : VR γ a c) : c.oneCell' = a.oneCell' := by
  cases h <;> first | rfl | (rename_i h; cases c <;> first | rfl | cases h)
theorem VR.cells {a : Value} (h : VR γ a c) : LR γ (cellsL a) (cellsL c) := by
  cases h with
  | agg h1 h2 => exact LR.mk (by simpa [cellsL] using h1) (by simpa [cellsL] using h2)
  | atom h =>
    have e : cellsL c = [c] := by cases c <;> first | rfl | (simp [atomV] at h; done)
    rw [e]
    exact ⟨.atom h, trivial⟩
  | symI => exact ⟨.symI, trivial⟩
  | top h =>
    have e : cellsL c = [c] := by cases c <;> first | rfl | (simp [junkV] at h; done)
    rw [e]
    exact ⟨.top h, trivial⟩
  | symS h hn hc => exact ⟨.symS h hn hc, trivial⟩
  | ptr h => exact ⟨.ptr h, trivial⟩
  | slice h hc hr => exact ⟨.slice h hc hr, trivial⟩
  | sliceE h => exact ⟨.sliceE h, trivial⟩
  | map h => exact ⟨.map h, trivial⟩
  | func h1 h2 h3 h4 => exact ⟨.func h1 h2 h3 h4, trivial⟩
  | iface h => exact ⟨.iface h, trivial⟩
  | tuple h1 h2 => exact ⟨.tuple h1 h2, trivial⟩
end
theorem VR.undef (γ : Gm) : VR γ undef undef := .tuple rfl (by intro i x y hx; simp at hx)

mutual
theorem plainV_VR (γ : Gm) : ∀ (v : Value), plainV v = true → VR γ v v
  | .bool _, _ => .atom rfl
  | .int .., _ => .atom rfl
  | .string _, _ => .atom rfl
  | .pointer none, _ => .atom rfl
  | .map none, _ => .atom rfl
  | .nilFunc, _ => .atom rfl
  | .nilIface, _ => .atom rfl
  | .slice none 0 0, _ => .atom rfl
  | .func (.func f) ⟨[]⟩ ⟨[]⟩, _ => .func rfl (by intro i x y hx; simp at hx) rfl (by intro i x y hx; simp at hx)
  | .agg ⟨l⟩, h => VR.agg_list (plainL_LR γ l (by simpa [plainV] using h))
  | .tuple ⟨l⟩, h => VR.tuple_list (plainL_LR γ l (by simpa [plainV] using h))
  | .pointer (some _), h => by simp [plainV] at h
  | .map (some _), h => by simp [plainV] at h
  | .chan _, h => by simp [plainV] at h
  | .float _ _, h => by simp [plainV] at h
  | .complex .f64 _ _, _ => .atom rfl
  | .complex .f32 _ _, h => by simp [plainV, isF64] at h
  | .iface _ _, h => by simp [plainV] at h
  | .slice (some _) _ _, h => by simp [plainV] at h
  | .slice none (_ + 1) _, h => by simp [plainV] at h
  | .slice none 0 (_ + 1), h => by simp [plainV] at h
  | .func (.func _) ⟨_ :: _⟩ _, h => by simp [plainV] at h
  | .func (.func _) ⟨[]⟩ ⟨_ :: _⟩, h => by simp [plainV] at h
  | .func (.method _) _ _, h => by simp [plainV] at h
  | .func (.methodOf _ _) _ _, h => by simp [plainV] at h
  | .func (.via _ _ _ _) _ _, h => by simp [plainV] at h
  | .func (.yield _) _ _, h => by simp [plainV] at h
theorem plainL_LR (γ : Gm) : ∀ (l : List Value), plainL l = true → LR γ l l
  | [], _ => trivial
  | v :: l, h => by
    simp only [plainL, Bool.and_eq_true] at h
    exact ⟨plainV_VR γ v h.1, plainL_LR γ l h.2⟩
end
end Go.Ai
