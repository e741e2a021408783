/-
  The abstract interpreter: from the model's functions to its instructions.
-/
import Derived.Test.YtclmkcmpfkmbpaaGreatDoorAi1
namespace Go.Ai
open Go

def isF64 : FloatKind → Bool
  | .f64 => true
  | .f32 => false

mutual
def plainV : Value → Bool
  | .bool _ | .int .. | .string _ => true
  | .pointer none | .map none | .nilFunc | .nilIface => true
  | .slice none 0 0 => true
  | .func (.func _) ⟨[]⟩ ⟨[]⟩ => true
  | .complex k _ _ => isF64 k
  | .agg ⟨l⟩ => plainL l
  | .tuple ⟨l⟩ => plainL l
  | _ => false
def plainL : List Value → Bool
  | [] => true
  | v :: l => plainV v && plainL l
end

def opd : Operand → Option Opd
  | .tmp t => some (.t t)
  | .const v => bif plainV v then some (.c v) else none
  | .func f => some (.c (.func (.func f) #[] #[]))
  | .global _ => none
def opds : List Operand → Option (List Opd)
  | [] => some []
  | x :: l => match opd x, opds l with
    | some y, some m => some (y :: m)
    | _, _ => none
def opdO : Option Operand → Option (Option Opd)
  | none => some none
  | some x => match opd x with
    | some y => some (some y)
    | none => none

def sizeT (P : Program) (t : TypeId) : Option Nat := (P.info? t).map (·.size)
def bytesT (P : Program) (t : TypeId) : Option Nat := (P.info? t).map (·.bytes)
def zeroT (P : Program) (t : TypeId) : Option Value :=
  match P.info? t with
  | some i => match i.zero with
    | some z => bif plainV z then some z else none
    | none => none
  | none => none
def aggT (P : Program) (t : TypeId) : Option Bool :=
  match P.underlying t with
  | some (.struct _) | some (.array _ _) => some true
  | some _ => some false
  | none => none

def cycle (z : List Value) (n : Nat) : List Value := (List.replicate n z).flatten

def partsF (P : Program) (fields : Array Field) : List (Nat × Operand) → Option (List (Nat × Nat × Opd))
  | [] => some []
  | (i, x) :: l => match fields[i]?, opd x, partsF P fields l with
    | some f, some y, some m => match sizeT P f.type with
      | some s => some ((f.offset, s, y) :: m)
      | none => none
    | _, _, _ => none
def partsA (size : Nat) : List (Nat × Operand) → Option (List (Nat × Nat × Opd))
  | [] => some []
  | (i, x) :: l => match opd x, partsA size l with
    | some y, some m => some ((i * size, size, y) :: m)
    | _, _ => none

def compCall (P : Program) (c : Call) : Option I :=
  match c.callee, c.args.toList, c.argTypes.toList with
  | .value (.func f), args, _ => match P.funcs[f]?, opds args with
    | some fn, some xs => bif fn.body.isSome && !(fn.name == "runtime.NumGoroutine") then some (.call f xs) else none
    | _, _ => none
  | .builtin .len, [x], [t] => match P.underlying t, opd x with
    | some .string, some y => some (.len true y)
    | some (.slice _), some y => some (.len false y)
    | some (.map _ _), some y => some (.mlen y)
    | _, _ => none
  | .builtin .append, [s, x], [t, u] => match P.underlying t, opd s, opd x with
    | some (.slice e), some s, some x => match sizeT P e, bytesT P e, zeroT P e with
      | some n, some b, some z => bif Nat.beq (cellsL z).length n && Nat.blt 0 n && Nat.blt 0 b && Nat.beq t u then some (.app n b s x) else none
      | _, _, _ => none
    | _, _, _ => none
  | .builtin .copy, [d, s], [t, _] => match P.underlying t, opd d, opd s with
    | some (.slice e), some d, some s => match sizeT P e with
      | some (n + 1) => some (.cpy (n + 1) d s)
      | _ => none
    | _, _, _ => none
  | .builtin .max, [x, y], [t, _] => match P.underlying t, opd x, opd y with
    | some (.int _), some x, some y => some (.mx false x y)
    | _, _, _ => none
  | .builtin .min, [x, y], [t, _] => match P.underlying t, opd x, opd y with
    | some (.int _), some x, some y => some (.mx true x y)
    | _, _, _ => none
  | _, _, _ => none

def keyT (P : Program) (k : TypeId) : Option Bool :=
  match P.underlying k with
  | some (.int _) => some false
  | some .string => some true
  | _ => none

def fldI (P : Program) (f : Field) (i : Nat) : Bool :=
  f.name != "_" && Nat.beq f.offset i && (match P.underlying f.type with
    | some (.int .i64) => true
    | _ => false)
/-- A struct of four numbers. -/
def eqaT (P : Program) (t : TypeId) : Bool :=
  match P.underlying t with
  | some (.struct fs) => match fs.toList with
    | [a, b, c, d] => fldI P a 0 && fldI P b 1 && fldI P c 2 && fldI P d 3 && !(P.stoodInHeld t) && !(P.eqGuardType P.depth t)
    | _ => false
  | _ => false

def compI (P : Program) (o : Oper) : Option I :=
  match o.op with
  | .move x | .assign x => (opd x).map .mov
  | .pick c a b => match opd c, opd a, opd b with
    | some c, some a, some b => some (.pick c a b)
    | _, _, _ => none
  | .alloc e => match zeroT P e with
    | some z => some (.new (cellsL z).length (cellsL z))
    | none => none
  | .box _ x => (opd x).map .box
  | .build t ps => match zeroT P t, P.underlying t with
    | some (.agg z), some (.struct fs) => bif fs.toList.all (fun f => (P.info? f.type).isSome) then (partsF P fs ps.toList).map (.build z.toList) else none
    | some (.agg z), some (.array _ e) => match sizeT P e with
      | some s => (partsA s ps.toList).map (.build z.toList)
      | none => none
    | _, _ => none
  | .buildSlice t n ps => match P.underlying t with
    | some (.slice e) => match sizeT P e, zeroT P e with
      | some s, some z => bif Nat.ble (n * s) 65536 && Nat.beq (cellsL z).length s then (partsA s ps.toList).map (.bslice s n (cycle (cellsL z) n)) else none
      | _, _ => none
    | _ => none
  | .load t a => match aggT P t, sizeT P t, opd a with
    | some true, some n, some a => some (.loadn n a)
    | some false, some _, some a => some (.load a)
    | _, _, _ => none
  | .store t a x => match sizeT P t, opd a, opd x with
    | some (n + 1), some a, some x => some (.store (n + 1) a x)
    | _, _, _ => none
  | .nilCheck x => (opd x).map .nilck
  | .binOp op t x y _ => match P.underlying t, opd x, opd y with
    | some (.int _), some x, some y => some (.bin op x y)
    | some .string, some x, some y => some (.bin op x y)
    | some (.pointer _), some x, some y => match op with
      | .eql => some (.eqp false x y)
      | .neq => some (.eqp true x y)
      | _ => none
    | some (.struct _), some x, some y => bif eqaT P t then (match op with
      | .eql => some (.eqa false x y)
      | .neq => some (.eqa true x y)
      | _ => none) else none
    | some (.interface _), some x, some (.c .nilIface) => match op with
      | .eql => some (.ifn false x)
      | .neq => some (.ifn true x)
      | _ => none
    | _, _, _ => none
  | .unOp .not _ x => (opd x).map .not
  | .unOp .neg _ x => (opd x).map .neg
  | .convert s d x => match P.underlying s, P.underlying d with
    | some (.int _), some (.int k) => (opd x).map (.conv k)
    | _, _ => none
  | .makeInterface t x => match P.underlying t with
    | some (.interface _) => none
    | some _ => (opd x).map (.iface t)
    | none => none
  | .typeAssert x _ t false => match P.underlying t with
    | some (.interface _) => none
    | some _ => (opd x).map (.tas t)
    | none => none
  | .makeSlice t l c => match P.underlying t with
    | some (.slice e) => match sizeT P e, bytesT P e, zeroT P e, opd l, opd c with
      | some s, some b, some z, some l, some c => bif Nat.beq (cellsL z).length s && Nat.blt 0 s then some (.mslice s b (cellsL z) l c) else none
      | _, _, _, _, _ => none
    | _ => none
  | .slice t x lo hi mx => match P.underlying t, opd x, opdO lo, opdO hi, opdO mx with
    | some .string, some x, some lo, some hi, some none => some (.slS x lo hi)
    | some (.slice e), some x, some lo, some hi, some none => (sizeT P e).map fun s => .sl s x lo hi none
    | some (.slice e), some x, some lo, some (some hi), some (some mx) => (sizeT P e).map fun s => .sl s x lo (some hi) (some mx)
    | _, _, _, _, _ => none
  | .fieldAddr s x f => match P.underlying s, opd x with
    | some (.struct fs), some x => match fs[f]? with
      | some fl => match sizeT P fl.type with
        | some (_ + 1) => some (.fld fl.offset x)
        | _ => none
      | none => none
    | _, _ => none
  | .field t x f => match P.underlying t, opd x with
    | some (.struct fs), some x => match fs[f]? with
      | some fl => match aggT P fl.type, sizeT P fl.type with
        | some true, some n => some (.fldv fl.offset (some n) x)
        | some false, some _ => some (.fldv fl.offset none x)
        | _, _ => none
      | none => none
    | _, _ => none
  | .indexAddr t x i => match P.underlying t, opd x, opd i with
    | some (.slice e), some x, some i => (sizeT P e).map fun s => .idxS s x i
    | some (.array n e), some x, some i => (sizeT P e).map fun s => .idxA n s x i
    | _, _, _ => none
  | .index t x i => match P.underlying t, opd x, opd i with
    | some .string, some x, some i => some (.chr x i)
    | _, _, _ => none
  | .extract x i => (opd x).map (.ext · i)
  | .makeMap _ none => some .mkmap
  | .mapUpdate t m k v | .insert t m k v => match P.underlying t, opd m, opd k, opd v with
    | some (.map kt _), some m, some k, some v => (keyT P kt).map fun s => .mset s m k v
    | _, _, _, _ => none
  | .lookup t m k ok => match P.underlying t, opd m, opd k with
    | some (.map kt e), some m, some k => match zeroT P e with
      | some z => (keyT P kt).map fun s => .look s z ok m k
      | none => none
    | _, _, _ => none
  | .mapEntry t m k => match P.underlying t, opd m, opd k with
    | some (.map kt e), some m, some k => match zeroT P e with
      | some z => (keyT P kt).map fun s => .ment s z m k
      | none => none
    | _, _, _ => none
  | .entryStore _ m s v => match opd m, opd s, opd v with
    | some m, some s, some v => some (.mest m s v)
    | _, _, _ => none
  | .range t x => match P.underlying t with
    | some (.map _ _) => (opd x).map .range
    | _ => none
  | .next it false => (opd it).map .next
  | .makeFunc fn first captured => match fn, opds first.toList, opds captured.toList with
    | .func _, some xs, some ys => some (.mkf fn xs ys)
    | _, _, _ => none
  | .call c => compCall P c
  | .panic x => (opd x).map .pan
  | _ => none

def guardOf (ops : Array Oper) : Option (Nat × Bool) → Option (Option (Nat × Bool))
  | none => some none
  | some (j, w) => match ops[j]? with
    | some o => match o.dst with
      | some d => some (some (d, w))
      | none => none
    | none => none

def dstOk (n : Nat) : Option Nat → Bool
  | none => true
  | some d => Nat.blt d n

def compO (P : Program) (nt : Nat) (ops : Array Oper) (o : Oper) : Option Itm :=
  match guardOf ops o.guard with
  | some g => bif dstOk nt o.dst then some ⟨(compI P o).getD .bad, o.dst, g⟩ else none
  | none => none
def compOs (P : Program) (nt : Nat) (ops : Array Oper) : List Oper → Option (List Itm)
  | [] => some []
  | o :: l => match compO P nt ops o, compOs P nt ops l with
    | some x, some m => some (x :: m)
    | _, _ => none

def clsI : I → Nat
  | .load _ | .loadn .. | .look .. | .mlen _ | .sl .. => 1
  | .new .. | .box _ | .bslice .. | .mslice .. | .mkmap => 2
  | .store .. | .app .. | .cpy .. | .mset .. | .ment .. | .mest .. | .range _ | .next _ | .call .. | .pan _ | .bad => 3
  | _ => 0

/- The plan of a region that draws. `b`: what comes ahead of each, as bits. -/
def actsAt : List Itm → Nat → List Nat
  | [], _ => []
  | o :: l, i => bif Nat.beq (clsI o.i) 3 then i :: actsAt l (i + 1) else actsAt l (i + 1)
def countIn (b : Nat) : List Nat → Nat
  | [] => 0
  | e :: es => (bif b.testBit e then 1 else 0) + countIn b es
def firstOver (bs : Array Nat) (i : Nat) : List Nat → Nat → Nat
  | [], p => p
  | e :: es, p => bif (bs.getD e 0).testBit i then p else firstOver bs i es (p + 1)
/-- Each with its place, and how many acts come ahead of it. -/
def plans (bs : Array Nat) (es : List Nat) : List Itm → Nat → List (Nat × Nat × DO)
  | [], _ => []
  | o :: l, i => (i, countIn (bs.getD i 0) es, ⟨o, clsI o.i, firstOver bs i es 0⟩) :: plans bs es l (i + 1)
/-- Those of a level: what does not act, and then what acts. -/
def levels (ds : List (Nat × Nat × DO)) : Nat → Nat → List (Nat × Nat × DO)
  | 0, _ => []
  | n + 1, e => ds.filter (fun d => Nat.beq d.2.1 e && !(Nat.beq d.2.2.cls 3)) ++ ds.filter (fun d => Nat.beq d.2.1 e && Nat.beq d.2.2.cls 3) ++ levels ds n (e + 1)

def opdSlot : Opd → List Nat
  | .t i => [i]
  | .c _ => []
def optSlot : Option Opd → List Nat
  | none => []
  | some x => opdSlot x
def slotsI : I → List Nat
  | .mov x | .box x | .load x | .loadn _ x | .nilck x | .not x | .neg x | .conv _ x | .iface _ x | .ifn _ x | .tas _ x | .fld _ x | .len _ x | .mlen x | .ext x _ | .fldv _ _ x | .range x | .next x | .pan x => opdSlot x
  | .pick c a b => opdSlot c ++ opdSlot a ++ opdSlot b
  | .new .. | .mkmap | .bad => []
  | .build _ ps | .bslice _ _ _ ps => ps.flatMap fun p => opdSlot p.2.2
  | .store _ a b | .bin _ a b | .eqp _ a b | .eqa _ a b | .mslice _ _ _ a b | .idxS _ a b | .idxA _ _ a b | .chr a b | .mx _ a b | .app _ _ a b | .cpy _ a b | .look _ _ _ a b | .ment _ _ a b => opdSlot a ++ opdSlot b
  | .slS x l h => opdSlot x ++ optSlot l ++ optSlot h
  | .sl _ x l h m => opdSlot x ++ optSlot l ++ optSlot h ++ optSlot m
  | .mset _ a b c | .mest a b c => opdSlot a ++ opdSlot b ++ opdSlot c
  | .mkf _ a b => a.flatMap opdSlot ++ b.flatMap opdSlot
  | .call _ a => a.flatMap opdSlot
def slotsO (o : Itm) : List Nat := slotsI o.i ++ (match o.g with | none => [] | some (s, _) => [s])

/-- The slots that an operation looks at are written ahead of it, or behind it. -/
def slotsFit (bs : Array Nat) (ds : List (Nat × DO)) : Bool :=
  ds.all fun d => (slotsO d.2.io).all fun s => ds.all fun x => x.2.io.dst != some s || Nat.beq x.1 d.1 || (bs.getD d.1 0).testBit x.1 || (bs.getD x.1 0).testBit d.1
/-- An order that goes: none behind has to come ahead; behind what acts comes only what has to; each slot is written once. -/
def ordFit (bs : Array Nat) : List (Nat × DO) → Bool
  | [] => true
  | d :: l => l.all (fun x => !(Nat.beq x.1 d.1) && !((bs.getD d.1 0).testBit x.1) && (!(Nat.beq d.2.cls 3) || (bs.getD x.1 0).testBit d.1) && (d.2.io.dst == none || x.2.io.dst != d.2.io.dst)) && ordFit bs l
def lastFit (bs : Array Nat) (ds : List (Nat × DO)) : Bool :=
  let acs := (ds.filter fun d => Nat.beq d.2.cls 3).map (·.1)
  ds.all fun d => match acs[d.2.la]? with
    | some q => (bs.getD q 0).testBit d.1
    | none => true
def allIn (n : Nat) (ds : List (Nat × DO)) : Bool := (List.range n).all fun i => ds.any fun d => Nat.beq d.1 i
def down (ops : Array Oper) : Bool :=
  (List.range ops.size).all fun i => match ops[i]? with
    | some o => o.after.toList.all fun e => !(Region.binds .any e) || Nat.blt e.on i
    | none => true
def planFit (ops : Array Oper) (bs : Array Nat) (ds : List (Nat × DO)) : Bool :=
  slotsFit bs ds && ordFit bs ds && lastFit bs ds && allIn ops.size ds && down ops

def compDraw (P : Program) (nt : Nat) (ops : Array Oper) : Option (List DO) :=
  match compOs P nt ops ops.toList with
  | some l =>
    let bs := Region.before ops
    let es := actsAt l 0
    let ds := (levels (plans bs es l 0) (es.length + 1) 0).map fun d => (d.1, d.2.2)
    bif planFit ops bs ds then some (ds.map (·.2)) else none
  | none => none

def labelsOf : Code → List Nat
  | .label l => [l]
  | .seq a b => labelsOf a ++ labelsOf b
  | _ => []

mutual
def compC (P : Program) (nt : Nat) : Nat → Code → Option IC
  | 0, _ => none
  | n + 1, c => match c with
    | .skip => some .skip
    | .label _ => some .label
    | .ret => some .ret
    | .exit id => some (.exit id)
    | .goto l => some (.goto l)
    | .region _ ops false => (compOs P nt ops ops.toList).map .ops
    | .region _ ops true => (compDraw P nt ops).map .draw
    | .seq a b => match compC P nt n a, compC P nt n b with
      | some a, some b => some (.seq a b)
      | _, _ => none
    | .cond c a b => match opd c, compC P nt n a, compC P nt n b with
      | some c, some a, some b => some (.cond c a b)
      | _, _, _ => none
    | .block id b => (compC P nt n b).map (.block id)
    | .loop b => (compC P nt n b).map .loop
    | .scope b => match compC P nt n b, compLs P nt n b (labelsOf b) with
      | some b, some ls => some (.scope b ls)
      | _, _ => none
    | .rangeFunc .. | .refuse _ => some .bad
def compLs (P : Program) (nt : Nat) : Nat → Code → List Nat → Option (List (Nat × IC))
  | 0, _, _ => none
  | _ + 1, _, [] => some []
  | n + 1, b, l :: ls => match findLabel b l, compLs P nt n b ls with
    | some rest, some m => match compC P nt n rest with
      | some r => some ((l, r) :: m)
      | none => none
    | _, _ => none
end

def resO (P : Program) (nt : Nat) : List ResultVar → Option (List (Sum Nat (Nat × Nat)))
  | [] => some []
  | .tmp t :: l => (resO P nt l).map (.inl t :: ·)
  | .cell a t :: l => match aggT P t, sizeT P t, resO P nt l with
    | some true, some (n + 1), some m => some (.inr (a, n + 1) :: m)
    | some false, some _, some m => some (.inr (a, 0) :: m)
    | _, _, _ => none

def compF (P : Program) (fn : Func) : Option IF :=
  match fn.body with
  | some c => match compC P fn.ntmps 1000 c, resO P fn.ntmps fn.results.toList with
    | some b, some r => some ⟨fn.ntmps, r, b⟩
    | _, _ => none
  | none => none
end Go.Ai
