/-
  The abstract interpreter: its data (a trie keyed by numbers, an abstract memory), its instructions, and how it runs. Definitions alone, and the trie's laws.
-/
import Derived.Calls
import Derived.Orders
import Derived.LoopN
import Derived.ScopeJumps
import Derived.Laws.Sem
namespace Go.Ai
open Go

/-- A trie keyed by numbers: 0 at the root; 2k+1 in the left, 2k+2 in the right one, at k. -/
inductive PM (α : Type) where
  | lf
  | nd (l : PM α) (v : Option α) (r : PM α)

namespace PM
variable {α : Type}
def get : PM α → Nat → Option α
  | .lf, _ => none
  | .nd l v r, n => bif Nat.beq n 0 then v else bif Nat.beq (n % 2) 1 then l.get (n / 2) else r.get (n / 2 - 1)
def one (v : α) : Nat → Nat → PM α
  | 0, _ => .nd .lf (some v) .lf
  | f + 1, n => bif Nat.beq n 0 then .nd .lf (some v) .lf else bif Nat.beq (n % 2) 1 then .nd (one v f (n / 2)) none .lf else .nd .lf none (one v f (n / 2 - 1))
def set : PM α → Nat → α → PM α
  | .lf, n, v => one v n n
  | .nd l x r, n, v => bif Nat.beq n 0 then .nd l (some v) r else bif Nat.beq (n % 2) 1 then .nd (l.set (n / 2) v) x r else .nd l x (r.set (n / 2 - 1) v)
def ofList (m : PM α) : List α → Nat → PM α
  | [], _ => m
  | x :: xs, i => ofList (m.set i x) xs (i + 1)
end PM

/-- A row of cells: what is known of it; `own`: it may be written, and appended to; `shared`: elder rows may lie in the same block; those can be read while no store came (`sv` is the group's count of stores). -/
structure Arr where
  cells : PM Value
  n : Nat
  es : Nat
  own : Bool
  shared : Bool
  grp : Nat
  sv : Nat

inductive AO where
  | arr (a : Arr)
  | map (es : List MapEntry) (clock : Nat)
  | miter (m : Option Nat) (since : Nat) (seen : List Nat) (stepped : Nat)
  | zer (s : Nat) (z : Value)

structure Mem where
  h : PM AO
  nx : Nat
  lw : PM Nat

def Mem.empty : Mem := ⟨.lf, 0, .lf⟩

inductive Opd where
  | t (i : Nat)
  | c (v : Value)

def tval (T : PM Value) (i : Nat) : Value := (T.get i).getD undef

def Opd.ev (T : PM Value) : Opd → Value
  | .t i => tval T i
  | .c v => v

inductive I where
  | mov (x : Opd)
  | pick (c a b : Opd)
  | new (es : Nat) (z : List Value)
  | box (x : Opd)
  | build (z : List Value) (ps : List (Nat × Nat × Opd))
  | bslice (es n : Nat) (z : List Value) (ps : List (Nat × Nat × Opd))
  | load (a : Opd)
  | loadn (n : Nat) (a : Opd)
  | store (n : Nat) (a x : Opd)
  | nilck (x : Opd)
  | bin (op : BinOp) (x y : Opd)
  | eqp (neg : Bool) (x y : Opd)
  | not (x : Opd)
  | neg (x : Opd)
  | conv (k : IntKind) (x : Opd)
  | iface (t : TypeId) (x : Opd)
  | ifn (neg : Bool) (x : Opd)
  | eqa (neg : Bool) (x y : Opd)
  | tas (t : TypeId) (x : Opd)
  | mslice (es bytes : Nat) (z : List Value) (l c : Opd)
  | slS (x : Opd) (lo hi : Option Opd)
  | sl (es : Nat) (x : Opd) (lo hi mx : Option Opd)
  | fld (off : Nat) (x : Opd)
  | idxS (es : Nat) (x i : Opd)
  | idxA (len es : Nat) (x i : Opd)
  | chr (x i : Opd)
  | len (s : Bool) (x : Opd)
  | mlen (x : Opd)
  | mx (neg : Bool) (x y : Opd)
  | app (es bytes : Nat) (s x : Opd)
  | cpy (es : Nat) (d s : Opd)
  | ext (x : Opd) (i : Nat)
  | fldv (off : Nat) (agg : Option Nat) (x : Opd)
  | mkmap
  | mset (s : Bool) (m k v : Opd)
  | look (s : Bool) (z : Value) (ok : Bool) (m k : Opd)
  | ment (s : Bool) (z : Value) (m k : Opd)
  | mest (m s v : Opd)
  | range (m : Opd)
  | next (it : Opd)
  | mkf (fn : Fn) (first captured : List Opd)
  | call (f : Nat) (args : List Opd)
  | pan (x : Opd)
  | bad

/-- An instruction, where its value goes, and its guard: a slot, and what that must be. -/
structure Itm where
  i : I
  dst : Option Nat
  g : Option (Nat × Bool)

/-- An operation of a region that draws: 0: it needs no memory; 1: it reads; 2: it makes; 3: it acts. How many that act may come ahead of it. -/
structure DO where
  io : Itm
  cls : Nat
  la : Nat

inductive IC where
  | skip
  | ops (l : List Itm)
  | draw (l : List DO)
  | seq (a b : IC)
  | cond (c : Opd) (a b : IC)
  | block (id : Nat) (b : IC)
  | loop (b : IC)
  | exit (id : Nat)
  | scope (b : IC) (labels : List (Nat × IC))
  | label
  | goto (l : Nat)
  | ret
  | bad

structure IF where
  ntmps : Nat
  results : List (Sum Nat (Nat × Nat))
  body : IC

/-- What a run of code comes to. -/
inductive R where
  | nrm (T : PM Value) (M : Mem)
  | ext (id : Nat) (T : PM Value) (M : Mem)
  | got (l : Nat) (T : PM Value) (M : Mem)
  | ret (T : PM Value) (M : Mem)
  | pan (v : Value) (M : Mem)
  | bad

/-- What a call comes to. -/
inductive RC where
  | ret (v : Value) (M : Mem)
  | pan (v : Value) (M : Mem)
  | bad

/- Numbers -/
def ieq : Int → Int → Bool
  | .ofNat a, .ofNat b => Nat.beq a b
  | .negSucc a, .negSucc b => Nat.beq a b
  | _, _ => false
def ilt : Int → Int → Bool
  | .ofNat a, .ofNat b => Nat.blt a b
  | .ofNat _, .negSucc _ => false
  | .negSucc _, .ofNat _ => true
  | .negSucc a, .negSucc b => Nat.blt b a
def keq : IntKind → IntKind → Bool
  | .i8, .i8 | .i16, .i16 | .i32, .i32 | .i64, .i64 | .u8, .u8 | .u16, .u16 | .u32, .u32 | .u64, .u64 => true
  | _, _ => false
def fitI : IntKind → Int → Bool
  | .i64, .ofNat a => Nat.blt a 9223372036854775808
  | .i64, .negSucc a => Nat.blt a 9223372036854775808
  | .u64, .ofNat a => Nat.blt a 18446744073709551616
  | .u8, .ofNat a => Nat.blt a 256
  | .u32, .ofNat a => Nat.blt a 4294967296
  | .i32, .ofNat a => Nat.blt a 2147483648
  | .i32, .negSucc a => Nat.blt a 2147483648
  | _, _ => false
def fitv (k : IntKind) (n : Int) : Option Value := bif fitI k n then some (.int k n) else none

def natArg : Value → Option Nat
  | .int _ (.ofNat n) => some n
  | _ => none

def u8eq (a b : UInt8) : Bool := Nat.beq a.toNat b.toNat
def beqL : List UInt8 → List UInt8 → Bool
  | [], [] => true
  | a :: x, b :: y => bif u8eq a b then beqL x y else false
  | _, _ => false

def binInt (op : BinOp) (k : IntKind) (a b : Int) : Option Value :=
  match op with
  | .add => fitv k (a + b)
  | .sub => fitv k (a - b)
  | .mul => fitv k (a * b)
  | .eql => some (.bool (ieq a b))
  | .neq => some (.bool (!(ieq a b)))
  | .lss => some (.bool (ilt a b))
  | .gtr => some (.bool (ilt b a))
  | .leq => some (.bool (!(ilt b a)))
  | .geq => some (.bool (!(ilt a b)))
  | .quo => match a, b with
    | .ofNat m, .ofNat (n + 1) => fitv k (.ofNat (m / (n + 1)))
    | _, _ => none
  | .rem => match a, b with
    | .ofNat m, .ofNat (n + 1) => some (.int k (.ofNat (m % (n + 1))))
    | _, _ => none
  | .and => match k, a, b with
    | .i64, .ofNat m, .ofNat n => bif Nat.blt m 9223372036854775808 && Nat.blt n 9223372036854775808 then some (.int .i64 (.ofNat (Nat.land m n))) else none
    | .u64, .ofNat m, .ofNat n => bif Nat.blt m 18446744073709551616 && Nat.blt n 18446744073709551616 then some (.int .u64 (.ofNat (Nat.land m n))) else none
    | _, _, _ => none
  | .or => match k, a, b with
    | .i64, .ofNat m, .ofNat n => bif Nat.blt m 9223372036854775808 && Nat.blt n 9223372036854775808 then some (.int .i64 (.ofNat (Nat.lor m n))) else none
    | .u64, .ofNat m, .ofNat n => bif Nat.blt m 18446744073709551616 && Nat.blt n 18446744073709551616 then some (.int .u64 (.ofNat (Nat.lor m n))) else none
    | _, _, _ => none
  | _ => none

def shiftInt (op : BinOp) (k : IntKind) (a b : Int) : Option Value :=
  match a, b with
  | .ofNat m, .ofNat n => bif Nat.ble n 32 && Nat.ble n k.bits then
      (match op with
      | .shl => fitv k (.ofNat (m * 2 ^ n))
      | .shr => some (.int k (.ofNat (m / 2 ^ n)))
      | _ => none) else none
  | _, _ => none

def bin (op : BinOp) (x y : Value) : Option Value :=
  match x, y with
  | .int k a, .int j b =>
    match op with
    | .shl => shiftInt .shl k a b
    | .shr => shiftInt .shr k a b
    | op => bif keq k j then binInt op k a b else none
  | .string ⟨⟨s⟩⟩, .string ⟨⟨t⟩⟩ =>
    match op with
    | .eql => some (.bool (beqL s t))
    | .neq => some (.bool (!(beqL s t)))
    | .add => bif Nat.blt (s.length + t.length) 1000000000 then some (.string ⟨⟨s ++ t⟩⟩) else none
    | _ => none
  | _, _ => none

def eqp (x y : Value) : Option Bool :=
  match x, y with
  | .pointer none, .pointer none => some true
  | .pointer none, .pointer (some _) => some false
  | .pointer (some _), .pointer none => some false
  | _, _ => none

/- Memory -/
/-- What is known of the symbols (a number that is not known: `.float .f32 i`; a row whose length is not known: `.complex .f32 r i`), and which calls are told by other means. -/
class Know where
  cmp : Nat → BinOp → Bool → Int → Option Value
  lo : Nat → Nat
  hi : Nat → Nat
  ov : Nat → Option (List Value → Mem → RC)
variable [Know]

def valid (M : Mem) (a : Arr) : Bool := a.own || Nat.beq a.sv ((M.lw.get a.grp).getD 0)
/-- So much of a row of symbolic length as is surely there. -/
def zarr (s : Nat) (z : Value) (r : Nat) : Arr := ⟨PM.ofList .lf (List.replicate (Know.lo s) z) 0, Know.lo s, 1, true, false, r, 0⟩
def arrOf (M : Mem) (r : Nat) : Option Arr :=
  match M.h.get r with
  | some (.arr a) => bif valid M a then some a else none
  | some (.zer s z) => some (zarr s z r)
  | _ => none
def isNum : Value → Bool
  | .int .. | .bool _ => true
  | _ => false
def readL (c : PM Value) : Nat → Nat → Option (List Value)
  | 0, _ => some []
  | n + 1, i => match c.get i with
    | some v => match readL c n (i + 1) with
      | some l => some (v :: l)
      | none => none
    | none => none
def cellsL : Value → List Value
  | .agg cs => cs.toList
  | v => [v]
def writeL (c : PM Value) : List Value → Nat → Option (PM Value)
  | [], _ => some c
  | v :: l, i => bif v.oneCell' then (match c.get i with | some _ => writeL (c.set i v) l (i + 1) | none => none) else none
def allOne : List Value → Bool
  | [] => true
  | v :: l => bif v.oneCell' then allOne l else false

def newArr (M : Mem) (cells : List Value) (es : Nat) : Option (Nat × Mem) :=
  bif allOne cells then
    some (M.nx, ⟨M.h.set M.nx (.arr ⟨PM.ofList .lf cells 0, cells.length, es, true, false, M.nx, 0⟩), M.nx + 1, M.lw⟩)
  else none

def putArr (M : Mem) (r : Nat) (a : Arr) : Mem :=
  ⟨M.h.set r (.arr a), M.nx, bif a.shared then M.lw.set a.grp ((M.lw.get a.grp).getD 0 + 1) else M.lw⟩

def storeC (M : Mem) (r o : Nat) (vs : List Value) : Option Mem :=
  match M.h.get r with
  | some (.arr a) => bif a.own then
      (match writeL a.cells vs o with
      | some c => some (putArr M r { a with cells := c })
      | none => none) else none
  | some (.zer s z) =>
      (match writeL (zarr s z r).cells vs o with
      | some c => some (putArr M r { zarr s z r with cells := c })
      | none => none)
  | _ => none

def msliceA (M : Mem) (es bytes : Nat) (z : List Value) (l c : Value) : Option (Value × Mem) :=
  match natArg l, natArg c with
    | some l, some c => bif Nat.beq l c && Nat.ble (c * bytes) 1099511627776 && Nat.ble c 1099511627776 then
        (match newArr M ((List.replicate c z).flatten) es with
        | some (r, M') => some (.slice (some ⟨r, 0, none⟩) l 0, M')
        | none => none) else none
    | _, _ => none
def msliceS (M : Mem) (es bytes s s' : Nat) : List Value → Option (Value × Mem)
  | [z] => bif Nat.beq s s' && Nat.beq es 1 && isNum z && Nat.ble (Know.hi s * bytes) 1099511627776 && Nat.ble (Know.hi s) 1099511627776 && Nat.blt 0 (Know.lo s) then
      some (.complex .f32 M.nx s, ⟨M.h.set M.nx (.zer s z), M.nx + 1, M.lw⟩) else none
  | _ => none

def overlay : List Value → Nat → List Value → List Value
  | z, _, [] => z
  | z, o, v :: l => overlay (z.set o v) (o + 1) l

def fillL (T : PM Value) : List Value → List (Nat × Nat × Opd) → Option (List Value)
  | z, [] => some z
  | z, (off, size, x) :: ps =>
    let l := cellsL (x.ev T)
    bif Nat.beq l.length size && Nat.ble (off + size) z.length then fillL T (overlay z off l) ps else none

def appendA (M : Mem) (es bytes : Nat) (s : Value) (m : Nat) (xs : List Value) : Option (Value × Mem) :=
  match s with
  | .slice none 0 _ =>
    bif Nat.beq m 0 then some (s, M) else
    bif Nat.ble (m * bytes) 1099511627776 then
      (match newArr M xs es with
      | some (r, M') => some (.slice (some ⟨r, 0, none⟩) m 0, M')
      | none => none) else none
  | .slice (some ⟨r, o, none⟩) len _ =>
    bif Nat.beq m 0 then some (s, M) else
    match M.h.get r with
    | some (.arr a) =>
      bif a.own && Nat.beq a.es es && Nat.ble (o + len * es) a.n && Nat.ble ((len + m) * bytes) 1099511627776 && allOne xs && Nat.blt 0 es then
        let L := (M.lw.get a.grp).getD 0
        let e := o + len * es
        bif Nat.beq o 0 && Nat.beq e a.n then
          some (.slice (some ⟨M.nx, 0, none⟩) (len + m) 0,
            ⟨(M.h.set r (.arr { a with own := false, sv := L })).set M.nx (.arr ⟨PM.ofList a.cells xs e, e + xs.length, es, true, true, a.grp, 0⟩), M.nx + 1, M.lw⟩)
        else match readL a.cells (len * es) o with
          | some old =>
            some (.slice (some ⟨M.nx, 0, none⟩) (len + m) 0,
              ⟨(M.h.set r (.arr { a with own := false, sv := L })).set M.nx (.arr ⟨PM.ofList .lf (old ++ xs) 0, len * es + xs.length, es, true, true, a.grp, 0⟩), M.nx + 1,
                bif Nat.beq e a.n then M.lw else M.lw.set a.grp (L + 1)⟩)
          | none => none
      else none
    | _ => none
  | _ => none

/- Maps -/
def keyEq : Value → Value → Option Bool
  | .int k a, .int j b => bif keq k j then some (ieq a b) else none
  | .string ⟨⟨s⟩⟩, .string ⟨⟨t⟩⟩ => some (beqL s t)
  | _, _ => none
def findE (k : Value) : List MapEntry → Nat → Option (Option (Nat × Value))
  | [], _ => some none
  | e :: es, i => match keyEq k e.key with
    | some true => some (some (i, e.val))
    | some false => findE k es (i + 1)
    | none => none
def modE (f : MapEntry → MapEntry) : List MapEntry → Nat → List MapEntry
  | [], _ => []
  | e :: es, 0 => f e :: es
  | e :: es, n + 1 => e :: modE f es n
def bornAt : List MapEntry → Nat → Nat
  | [], _ => 0
  | e :: _, 0 => e.born
  | _ :: es, n + 1 => bornAt es n
def findBorn (b : Nat) : List MapEntry → Nat → Option Nat
  | [], _ => none
  | e :: es, i => bif Nat.beq e.born b then some i else findBorn b es (i + 1)
def mapOf (M : Mem) : Value → Option (Nat × List MapEntry × Nat)
  | .map (some r) => match M.h.get r with
    | some (.map es c) => some (r, es, c)
    | _ => none
  | _ => none
def keyOk : Bool → Value → Bool
  | false, .int .. => true
  | true, .string _ => true
  | _, _ => false

def optNat (T : PM Value) (d : Nat) : Option Opd → Option Nat
  | none => some d
  | some x => natArg (x.ev T)

def esOk (M : Mem) (r es : Nat) : Bool :=
  match M.h.get r with
  | some (.arr a) => Nat.beq a.es es
  | _ => false

def symCmp (op : BinOp) : Value → Value → Option Value
  | .float .f32 i, .int .i64 c => Know.cmp i op false c
  | .int .i64 c, .float .f32 i => Know.cmp i op true c
  | _, _ => none

/-- One instruction that is no call and no panic. -/
def step (T : PM Value) (M : Mem) : I → Option (Value × Mem)
  | .mov x => some (x.ev T, M)
  | .pick c a b => match c.ev T with
    | .bool true => some (a.ev T, M)
    | .bool false => some (b.ev T, M)
    | _ => none
  | .new es z => match newArr M z es with
    | some (r, M') => some (.pointer (some ⟨r, 0, none⟩), M')
    | none => none
  | .box x => match newArr M (cellsL (x.ev T)) (cellsL (x.ev T)).length with
    | some (r, M') => some (.pointer (some ⟨r, 0, none⟩), M')
    | none => none
  | .build z ps => match fillL T z ps with
    | some l => some (.agg ⟨l⟩, M)
    | none => none
  | .bslice es n z ps => match fillL T z ps with
    | some l => match newArr M l es with
      | some (r, M') => some (.slice (some ⟨r, 0, none⟩) n 0, M')
      | none => none
    | none => none
  | .load a => match a.ev T with
    | .pointer (some ⟨r, o, none⟩) => match arrOf M r with
      | some a => match a.cells.get o with
        | some v => some (v, M)
        | none => none
      | none => none
    | _ => none
  | .loadn n a => match a.ev T with
    | .pointer (some ⟨r, o, none⟩) => match arrOf M r with
      | some a => match readL a.cells n o with
        | some l => some (.agg ⟨l⟩, M)
        | none => none
      | none => none
    | _ => none
  | .store n a x => match a.ev T with
    | .pointer (some ⟨r, o, none⟩) =>
      let l := cellsL (x.ev T)
      bif Nat.beq l.length n then
        (match storeC M r o l with
        | some M' => some (undef, M')
        | none => none) else none
    | _ => none
  | .nilck x => match x.ev T with
    | .pointer (some a) => some (.pointer (some a), M)
    | _ => none
  | .bin op x y => match Ai.bin op (x.ev T) (y.ev T) with
    | some v => some (v, M)
    | none => match symCmp op (x.ev T) (y.ev T) with
      | some b => some (b, M)
      | none => none
  | .eqp neg x y => match Ai.eqp (x.ev T) (y.ev T) with
    | some b => some (.bool (bif neg then !b else b), M)
    | none => none
  | .not x => match x.ev T with
    | .bool b => some (.bool (!b), M)
    | _ => none
  | .neg x => match x.ev T with
    | .int k n => match fitv k (0 - n) with
      | some v => some (v, M)
      | none => none
    | _ => none
  | .conv k x => match x.ev T with
    | .int _ n => match fitv k n with
      | some v => some (v, M)
      | none => none
    | _ => none
  | .iface t x => some (.iface t (x.ev T), M)
  | .ifn neg x => match x.ev T with
    | .nilIface => some (.bool (!neg), M)
    | .iface _ _ => some (.bool neg, M)
    | _ => none
  | .eqa neg x y => match x.ev T, y.ev T with
    | .agg ⟨[.int .i64 a, .int .i64 b, .int .i64 c, .int .i64 d]⟩, .agg ⟨[.int .i64 e, .int .i64 f, .int .i64 g, .int .i64 h]⟩ =>
      some (.bool (bif neg then !(ieq a e && (ieq b f && (ieq c g && ieq d h))) else (ieq a e && (ieq b f && (ieq c g && ieq d h)))), M)
    | _, _ => none
  | .tas t x => match x.ev T with
    | .iface u v => bif Nat.beq u t then some (v, M) else none
    | _ => none
  | .mslice es bytes z l c => match l.ev T with
    | .float .f32 s => match c.ev T with
      | .float .f32 s' => msliceS M es bytes s s' z
      | _ => none
    | lv => msliceA M es bytes z lv (c.ev T)
  | .slS x lo hi => match x.ev T with
    | .string ⟨⟨s⟩⟩ => match optNat T s.length hi, optNat T 0 lo with
      | some h, some l => bif Nat.ble h s.length && Nat.ble l h then some (.string ⟨⟨(s.drop l).take (h - l)⟩⟩, M) else none
      | _, _ => none
    | _ => none
  | .sl es x lo hi mx => match x.ev T with
    | .slice (some ⟨r, o, none⟩) len _ => match optNat T len hi, optNat T 0 lo with
      | some h, some l => bif Nat.ble h len && Nat.ble l h && esOk M r es then
          (match mx with
          | none => some (.slice (some ⟨r, o + l * es, none⟩) (h - l) 0, M)
          | some m => match natArg (m.ev T) with
            | some m => bif Nat.ble h m && Nat.ble m len then some (.slice (some ⟨r, o + l * es, none⟩) (h - l) 0, M) else none
            | none => none) else none
      | _, _ => none
    | .slice none 0 _ => match optNat T 0 hi, optNat T 0 lo, mx with
      | some 0, some 0, none => some (.slice none 0 0, M)
      | _, _, _ => none
    | _ => none
  | .fld off x => match x.ev T with
    | .pointer (some ⟨r, o, none⟩) => some (.pointer (some ⟨r, o + off, none⟩), M)
    | _ => none
  | .idxS es x i => match x.ev T, natArg (i.ev T) with
    | .slice (some ⟨r, o, none⟩) len _, some i => bif Nat.blt i len then some (.pointer (some ⟨r, o + i * es, none⟩), M) else none
    | .complex .f32 r s, some i => bif Nat.blt i (Know.lo s) then some (.pointer (some ⟨r, 0 + i * es, none⟩), M) else none
    | _, _ => none
  | .idxA len es x i => match x.ev T, natArg (i.ev T) with
    | .pointer (some ⟨r, o, none⟩), some i => bif Nat.blt i len then some (.pointer (some ⟨r, o + i * es, none⟩), M) else none
    | _, _ => none
  | .chr x i => match x.ev T, natArg (i.ev T) with
    | .string ⟨⟨s⟩⟩, some i => match s[i]? with
      | some b => some (.int .u8 (.ofNat b.toNat), M)
      | none => none
    | _, _ => none
  | .len k x => match k, x.ev T with
    | false, .slice _ n _ => some (.int .i64 (.ofNat n), M)
    | false, .complex .f32 _ s => some (.float .f32 s, M)
    | true, .string ⟨⟨s⟩⟩ => some (.int .i64 (.ofNat s.length), M)
    | _, _ => none
  | .mlen x => match x.ev T with
    | .map none => some (.int .i64 0, M)
    | v => match mapOf M v with
      | some (_, es, _) => some (.int .i64 (.ofNat es.length), M)
      | none => none
  | .mx neg x y => match x.ev T, y.ev T with
    | .int k a, .int j b => bif keq k j then some (.int k (bif ilt a b then (bif neg then a else b) else (bif neg then b else a)), M) else none
    | _, _ => none
  | .app es bytes s x => match x.ev T with
    | .slice none 0 _ => appendA M es bytes (s.ev T) 0 []
    | .slice (some ⟨r, o, none⟩) m _ => match arrOf M r with
      | some a => match readL a.cells (m * es) o with
        | some xs => appendA M es bytes (s.ev T) m xs
        | none => none
      | none => none
    | _ => none
  | .cpy es d s => match d.ev T, s.ev T with
    | .slice (some ⟨r, o, none⟩) dl _, .slice (some ⟨r2, o2, none⟩) sl _ =>
      let n := bif Nat.ble sl dl then sl else dl
      bif Nat.beq n 0 then some (.int .i64 0, M) else
      match arrOf M r2 with
      | some a => match readL a.cells (n * es) o2 with
        | some xs => match storeC M r o xs with
          | some M' => some (.int .i64 (.ofNat n), M')
          | none => none
        | none => none
      | none => none
    | .slice _ _ _, .slice none 0 _ => some (.int .i64 0, M)
    | .slice none 0 _, .slice _ _ _ => some (.int .i64 0, M)
    | _, _ => none
  | .ext x i => match x.ev T with
    | .tuple vs => match vs.toList[i]? with
      | some v => some (v, M)
      | none => none
    | _ => none
  | .fldv off agg x => match x.ev T with
    | .agg cs => match agg with
      | none => match cs.toList[off]? with
        | some v => some (v, M)
        | none => none
      | some n => bif Nat.ble (off + n) cs.toList.length then some (.agg ⟨(cs.toList.drop off).take n⟩, M) else none
    | _ => none
  | .mkmap => some (.map (some M.nx), ⟨M.h.set M.nx (.map [] 0), M.nx + 1, M.lw⟩)
  | .mset s m k v => match mapOf M (m.ev T) with
    | some (r, es, c) => bif keyOk s (k.ev T) then
        (match findE (k.ev T) es 0 with
        | some (some (i, _)) => some (undef, ⟨M.h.set r (.map (modE (fun e => { e with val := v.ev T }) es i) c), M.nx, M.lw⟩)
        | some none => some (undef, ⟨M.h.set r (.map (es ++ [⟨k.ev T, v.ev T, c⟩]) (c + 1)), M.nx, M.lw⟩)
        | none => none) else none
    | none => none
  | .look s z ok m k => bif keyOk s (k.ev T) then
      (match m.ev T with
      | .map none => some (bif ok then .tuple #[z, .bool false] else z, M)
      | m => match mapOf M m with
        | some (_, es, _) => match findE (k.ev T) es 0 with
          | some (some (_, v)) => some (bif ok then .tuple #[v, .bool true] else v, M)
          | some none => some (bif ok then .tuple #[z, .bool false] else z, M)
          | none => none
        | none => none) else none
  | .ment s z m k => match mapOf M (m.ev T) with
    | some (r, es, c) => bif keyOk s (k.ev T) then
        (match findE (k.ev T) es 0 with
        | some (some (i, v)) => some (.tuple #[v, .int .i64 (.ofNat (bornAt es i))], M)
        | some none => some (.tuple #[z, .int .i64 (.ofNat c)], ⟨M.h.set r (.map (es ++ [⟨k.ev T, z, c⟩]) (c + 1)), M.nx, M.lw⟩)
        | none => none) else none
    | none => none
  | .mest m s v => match mapOf M (m.ev T), natArg (s.ev T) with
    | some (r, es, c), some b => match findBorn b es 0 with
      | some i => some (undef, ⟨M.h.set r (.map (modE (fun e => { e with val := v.ev T }) es i) c), M.nx, M.lw⟩)
      | none => none
    | _, _ => none
  | .range m => match m.ev T with
    | .map none => some (.pointer (some ⟨M.nx, 0, none⟩), ⟨M.h.set M.nx (.miter none 0 [] 0), M.nx + 1, M.lw⟩)
    | v => match mapOf M v with
      | some (r, _, c) => some (.pointer (some ⟨M.nx, 0, none⟩), ⟨M.h.set M.nx (.miter (some r) c [] c), M.nx + 1, M.lw⟩)
      | none => none
  | .next it => match it.ev T with
    | .pointer (some ⟨r, 0, none⟩) => match M.h.get r with
      | some (.miter none _ _ _) => some (.tuple #[.bool false], M)
      | some (.miter (some m) _ _ _) => match M.h.get m with
        | some (.map [] _) => some (.tuple #[.bool false], M)
        | _ => none
      | _ => none
    | _ => none
  | .mkf fn first captured => some (.func fn ⟨first.map (·.ev T)⟩ ⟨captured.map (·.ev T)⟩, M)
  | .call _ _ => none
  | .pan _ => none
  | .bad => none

def wanted (T : PM Value) : Option (Nat × Bool) → Bool
  | none => true
  | some (s, w) => match tval T s with
    | .bool b => (bif w then b else !b)
    | _ => false

def put (T : PM Value) (d : Option Nat) (v : Value) : PM Value :=
  match d with
  | none => T
  | some d => T.set d v

/-- Instructions in a row. -/
def runOps (call : Nat → List Value → Mem → RC) : List Itm → PM Value → Mem → R
  | [], T, M => .nrm T M
  | o :: l, T, M =>
    bif wanted T o.g then
      (match o.i with
      | .call f args => match call f (args.map (·.ev T)) M with
        | .ret v M' => runOps call l (put T o.dst v) M'
        | .pan v M' => .pan v M'
        | .bad => .bad
      | .pan x => match x.ev T with
        | .iface t v => .pan (.iface t v) M
        | _ => .bad
      | i => match step T M i with
        | some (v, M') => runOps call l (put T o.dst v) M'
        | none => .bad)
    else runOps call l (put T o.dst undef) M

/- Two values are surely one. -/
def veq1 : Value → Value → Bool
  | .int k a, .int j b => bif keq k j then ieq a b else false
  | .bool a, .bool b => bif a then b else !b
  | .string ⟨⟨s⟩⟩, .string ⟨⟨t⟩⟩ => beqL s t
  | .pointer none, .pointer none => true
  | .pointer (some ⟨a, b, none⟩), .pointer (some ⟨c, d, none⟩) => bif Nat.beq a c then Nat.beq b d else false
  | .slice none l c, .slice none m d => bif Nat.beq l m then Nat.beq c d else false
  | .slice (some ⟨a, b, none⟩) l x, .slice (some ⟨c, d, none⟩) m y => bif Nat.beq a c then (bif Nat.beq b d then (bif Nat.beq l m then Nat.beq x y else false) else false) else false
  | .map none, .map none => true
  | .map (some a), .map (some b) => Nat.beq a b
  | .nilFunc, .nilFunc => true
  | .nilIface, .nilIface => true
  | .float .f32 a, .float .f32 b => Nat.beq a b
  | .complex .f32 a b, .complex .f32 c d => bif Nat.beq a c then Nat.beq b d else false
  | _, _ => false
def veqL : List Value → List Value → Bool
  | [], [] => true
  | a :: l, b :: m => bif veq1 a b then veqL l m else false
  | _, _ => false
def veq : Value → Value → Bool
  | .agg ⟨a⟩, .agg ⟨b⟩ => veqL a b
  | .tuple ⟨a⟩, .tuple ⟨b⟩ => veqL a b
  | a, b => veq1 a b

/-- Reads that may come later read then what they read. -/
def still (M : Mem) (e : Nat) : List (Nat × I × PM Value × Value) → Bool
  | [] => true
  | (la, i, T, v) :: l => bif Nat.ble e la then
      (match step T M i with
      | some (u, _) => bif veq u v then still M e l else false
      | none => false) else still M e l

/-- Operations in an order that goes: what they come to in any other one. -/
def runDraw (call : Nat → List Value → Mem → RC) : List DO → Nat → List (Nat × I × PM Value × Value) → PM Value → Mem → R
  | [], e, ls, T, M => bif still M e ls then .nrm T M else .bad
  | d :: l, e, ls, T, M =>
    bif Nat.beq d.cls 3 then
      (bif still M e ls then
        (bif wanted T d.io.g then
          (match d.io.i with
          | .call f args => match call f (args.map (·.ev T)) M with
            | .ret v M' => runDraw call l (e + 1) ls (put T d.io.dst v) M'
            | .pan v M' => .pan v M'
            | .bad => .bad
          | .pan x => match x.ev T with
            | .iface t v => .pan (.iface t v) M
            | _ => .bad
          | i => match step T M i with
            | some (v, M') => runDraw call l (e + 1) ls (put T d.io.dst v) M'
            | none => .bad)
        else runDraw call l (e + 1) ls (put T d.io.dst undef) M)
      else .bad)
    else
      (bif wanted T d.io.g then
        (match step T M d.io.i with
        | some (v, M') => runDraw call l e (bif Nat.beq d.cls 1 then (d.la, d.io.i, T, v) :: ls else ls) (put T d.io.dst v) M'
        | none => .bad)
      else runDraw call l e ls (put T d.io.dst undef) M)

def initT (args : List Value) : PM Value := PM.ofList .lf args 0

def resultsL (T : PM Value) (M : Mem) : List (Sum Nat (Nat × Nat)) → Option (List Value)
  | [] => some []
  | .inl s :: l => match resultsL T M l with
    | some vs => some (tval T s :: vs)
    | none => none
  | .inr (s, 0) :: l => match step T M (.load (.t s)), resultsL T M l with
    | some (v, _), some vs => some (v :: vs)
    | _, _ => none
  | .inr (s, n + 1) :: l => match step T M (.loadn (n + 1) (.t s)), resultsL T M l with
    | some (v, _), some vs => some (v :: vs)
    | _, _ => none

def results (T : PM Value) (M : Mem) (l : List (Sum Nat (Nat × Nat))) : Option Value :=
  match resultsL T M l with
  | some [v] => some v
  | some vs => some (.tuple ⟨vs⟩)
  | none => none

def findL (l : Nat) : List (Nat × IC) → Option IC
  | [] => none
  | (k, c) :: ls => bif Nat.beq k l then some c else findL l ls

def leave (fn : IF) (T : PM Value) (M : Mem) : RC :=
  match results T M fn.results with
  | some v => .ret v M
  | none => .bad

def callW (ex : IC → PM Value → Mem → R) (F : PM IF) (f : Nat) (args : List Value) (M : Mem) : RC :=
  match Know.ov f with
  | some g => g args M
  | none =>
  match F.get f with
  | none => .bad
  | some fn => bif Nat.ble args.length fn.ntmps then
      (match ex fn.body (initT args) M with
      | .nrm T M' => leave fn T M'
      | .ret T M' => leave fn T M'
      | .pan v M' => .pan v M'
      | _ => .bad)
    else .bad

def exec (F : PM IF) : Nat → IC → PM Value → Mem → R
  | 0, _, _, _ => .bad
  | n + 1, c, T, M => match c with
    | .skip => .nrm T M
    | .label => .nrm T M
    | .ops l => runOps (callW (exec F n) F) l T M
    | .draw l => runDraw (callW (exec F n) F) l 0 [] T M
    | .seq a b => match exec F n a T M with
      | .nrm T M => exec F n b T M
      | r => r
    | .cond c a b => match c.ev T with
      | .bool true => exec F n a T M
      | .bool false => exec F n b T M
      | _ => .bad
    | .block id b => match exec F n b T M with
      | .ext k T M => bif Nat.beq k id then .nrm T M else .ext k T M
      | r => r
    | .loop b => match exec F n b T M with
      | .nrm T M => exec F n (.loop b) T M
      | r => r
    | .exit id => .ext id T M
    | .goto l => .got l T M
    | .ret => .ret T M
    | .bad => .bad
    | .scope b ls => match exec F n b T M with
      | .got l T M => match findL l ls with
        | some r => exec F n (.scope r ls) T M
        | none => .got l T M
      | r => r

def callF (F : PM IF) (n : Nat) (f : Nat) (args : List Value) (M : Mem) : RC := callW (exec F n) F f args M
end Go.Ai
