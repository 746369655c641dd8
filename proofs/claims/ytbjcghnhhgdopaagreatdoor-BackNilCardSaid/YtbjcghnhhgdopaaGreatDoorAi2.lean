import Derived.Test.YtbjcghnhhgdopaaGreatDoorAi1
namespace Go.Proofs.YtbjcghnhhgdopaaGreatDoor.Ai
open Go Go.RowKit

/-! ## 4. The abstract run: operations -/
section
variable (P : Program)
def tAgg (t : Nat) : Option Bool :=
  match P.underlying t with
  | some (.struct _) => some true
  | some (.array _ _) => some true
  | some _ => some false
  | none => none
def tSize (t : Nat) : Option Nat := (P.info? t).map (·.size)
def tBytes (t : Nat) : Option Nat := (P.info? t).map (·.bytes)
def tZero (t : Nat) : Option (List AV) := ((P.info? t).bind (·.zero)).bind fun v => (constA v).map (·.cells)
def tElem (t : Nat) : Option Nat :=
  match P.underlying t with
  | some (.slice e) => some e
  | _ => none

def tBool (t : Nat) : Bool :=
  match P.underlying t with
  | some .bool => true
  | _ => false

/-- The cells from an address on. -/
def cellsAt (H : Heap) : AV → Option (List AV)
  | .ptr id g off => match H[id]? with
    | some k => if k.gen = g then some (k.cells.drop off) else none
    | none => none
  | .fptr row j => some ((row.drop j).map .f)
  | _ => none
def loadA (H : Heap) (t : Nat) (p : AV) : Option AV :=
  match tAgg P t, cellsAt H p with
  | some true, some cs => match tSize P t with
    | some s => if s ≤ cs.length then some (.agg (cs.take s)) else none
    | none => none
  | some false, some (c :: _) => some c
  | _, _ => none
def setCs (cells : List AV) (off : Nat) (cs : List AV) : List AV := cells.take off ++ cs ++ cells.drop (off + cs.length)
def newBlk (H : Heap) (sz : Nat) (cs : List AV) : Heap := H ++ [⟨0, false, sz, cs⟩]
/-- lo: what lies below this number must not be written. -/
def storeA (lo : Nat) (H : Heap) (t : Nat) (p v : AV) : Option Heap :=
  match p with
  | .ptr id g off => match H[id]?, tSize P t with
    | some k, some s =>
      if k.gen = g ∧ k.ro = false ∧ v.cells.length = s ∧ off + s ≤ k.cells.length ∧ v.cells.all AV.isCell = true ∧ lo ≤ id then
        some (H.set id { k with cells := setCs k.cells off v.cells })
      else none
    | _, _ => none
  | _ => none
def fillA (place : Nat → Option (Nat × Nat)) (cells : List AV) : List (Nat × AV) → Option (List AV)
  | [] => some cells
  | (i, v) :: rest => match place i with
    | some (off, size) =>
      if v.cells.length = size ∧ off + size ≤ cells.length ∧ v.cells.all AV.isCell = true then fillA place (setCs cells off v.cells) rest else none
    | none => none
def intOfA : AV → Option Int
  | .f (.int _ n) => some n
  | _ => none
def indexA (t : Nat) (x i : AV) : Option AV :=
  match P.underlying t, intOfA i with
  | some (.slice e), some n => match tSize P e with
    | some s => if 0 ≤ n then match x with
        | .f (.fz sz rows) => if sz = s then (rows[n.toNat]?).map (fun r => .fptr r 0) else none
        | .row id g off len => if n.toNat < len then some (.ptr id g (off + n.toNat * s)) else none
        | _ => none
      else none
    | none => none
  | some (.array len e), some n => match tSize P e with
    | some s => if 0 ≤ n ∧ n.toNat < len then match x with
        | .ptr id g off => some (.ptr id g (off + n.toNat * s))
        | .fptr r j => some (.fptr r (j + n.toNat * s))
        | _ => none
      else none
    | none => none
  | _, _ => none
/-- An index into a string, or an array by value. -/
def index2A (t : Nat) (x i : AV) : Option AV :=
  match P.underlying t, intOfA i, x with
  | some .string, some n, .f (.str s) => if 0 ≤ n then (s[n.toNat]?).map (fun b => .f (.int .u8 b.toNat)) else none
  | some (.array len e), some n, .agg cs => match tSize P e, tAgg P e with
    | some s, some ag => if 0 ≤ n ∧ n.toNat < len ∧ n.toNat * s + s ≤ cs.length then
        (if ag then some (.agg ((cs.drop (n.toNat * s)).take s)) else (if s = 1 then cs[n.toNat * s]? else none)) else none
    | _, _ => none
  | _, _, _ => none
def fieldAddrA (s : Nat) (x : AV) (fld : Nat) : Option AV :=
  match P.underlying s with
  | some (.struct fields) => match fields[fld]? with
    | some f => match tSize P f.type with
      | some z => if z = 0 then none else match x with
        | .ptr id g off => some (.ptr id g (off + f.offset))
        | .fptr r j => some (.fptr r (j + f.offset))
        | _ => none
      | none => none
    | none => none
  | _ => none
def fieldA (s : Nat) (x : AV) (fld : Nat) : Option AV :=
  match P.underlying s, x with
  | some (.struct fields), .agg cs => match fields[fld]? with
    | some f => match tSize P f.type, tAgg P f.type with
      | some z, some ag => if f.offset + z ≤ cs.length then (if ag then some (.agg ((cs.drop f.offset).take z)) else (if z = 1 then cs[f.offset]? else none)) else none
      | _, _ => none
    | none => none
  | _, _ => none
def boundA (v : AV) (most : Nat) : Option Nat :=
  match intOfA v with
  | some n => if 0 ≤ n ∧ n.toNat ≤ most then some n.toNat else none
  | none => none
def oBound (v : Option AV) (d most : Nat) : Option Nat :=
  match v with
  | none => some d
  | some v => boundA v most
def sliceA (H : Heap) (t : Nat) (x : AV) (lo hi mx : Option AV) : Option AV :=
  match mx with
  | some _ => none
  | none => match P.underlying t, x with
    | some .string, .f (.str s) => match oBound hi s.size s.size with
      | some h => (oBound lo 0 h).map fun l => .f (.str (s.extract l h))
      | none => none
    | some (.slice e), .f (.fz sz rows) => if tSize P e = some sz then match oBound hi rows.length rows.length with
        | some h => (oBound lo 0 h).map fun l => .f (.fz sz ((rows.drop l).take (h - l)))
        | none => none
      else none
    | some (.slice e), .f .nilS => match tSize P e, oBound hi 0 0 with
      | some _, some h => (oBound lo 0 h).map fun _ => .f .nilS
      | _, _ => none
    | some (.slice e), .row id g off len => match H[id]?, tSize P e with
      | some k, some s => if k.gen = g ∧ k.sz = s ∧ 0 < s then match oBound hi len ((k.cells.length - off) / s) with
          | some h => (oBound lo 0 h).map fun l => .row id g (off + l * s) (h - l)
          | none => none
        else none
      | _, _ => none
    | _, _ => none
def lenA (x : AV) : Option Nat :=
  match x with
  | .f (.str s) => some s.size
  | .f (.fz _ rows) => some rows.length
  | .f .nilS => some 0
  | .row _ _ _ n => some n
  | _ => none
def lenT (t : Nat) (x : AV) : Option Nat :=
  match P.underlying t, x with
  | some .string, .f (.str s) => some s.size
  | some (.slice _), .f (.fz _ rows) => some rows.length
  | some (.slice _), .f .nilS => some 0
  | some (.slice _), .row _ _ _ n => some n
  | some (.array n _), _ => some n
  | _, _ => none
/-- The cells of a slice's first n elements (s cells each). -/
def srcA (H : Heap) (s n : Nat) (x : AV) : Option (List AV) :=
  match x with
  | .f (.fz sz rows) => if sz = s ∧ n ≤ rows.length then some ((rows.take n).flatten.map .f) else none
  | .f .nilS => if n = 0 then some [] else none
  | .f (.str b) => if s = 1 ∧ n ≤ b.size then some ((b.data.toList.take n).map fun c => .f (.int .u8 c.toNat)) else none
  | .row id g off len => match H[id]? with
    | some k => if k.gen = g ∧ k.sz = s ∧ n ≤ len then some ((k.cells.drop off).take (n * s)) else none
    | none => none
  | _ => none
def isIntD : TypeDesc → Bool
  | .int _ => true
  | _ => false
def appendA (lo : Nat) (H : Heap) (t : Nat) (t2 : Nat) (x y : AV) : Option (AV × Heap) :=
  match tElem P t, P.underlying t2 with
  | some e, some u2 => if isIntD u2 then none else
    match tSize P e, tBytes P e, tZero P e, lenA y with
    | some s, some bytes, some z, some n => match srcA H s n y with
      | some new => if 0 < s ∧ z.length = s then match x with
          | .f .nilS =>
            if n = 0 then some (.f .nilS, H)
            else if n * bytes ≤ 140737488355328 ∧ n ≤ 140737488355328 then some (.row H.length 0 0 n, newBlk H s new) else none
          | .row id g off len => match H[id]? with
            | some k =>
              if k.gen = g ∧ k.sz = s ∧ k.ro = false ∧ off + len * s ≤ k.cells.length ∧ lo ≤ id then
                if off + (len + n) * s ≤ k.cells.length then
                  some (.row id g off (len + n), H.set id { k with cells := setCs k.cells (off + len * s) new })
                else if (len + n) * bytes ≤ 140737488355328 ∧ len + n ≤ 140737488355328 then
                  some (.row id (g + 1) 0 (len + n), H.set id { k with gen := g + 1, cells := (k.cells.drop off).take (len * s) ++ new })
                else none
              else none
            | none => none
          | _ => none
        else none
      | none => none
    | _, _, _, _ => none
  | _, _ => none
def copyA (lo : Nat) (H : Heap) (t : Nat) (x y : AV) : Option (AV × Heap) :=
  match tElem P t, x, lenA y with
  | some e, .row id g off len, some m => match tSize P e, H[id]? with
    | some s, some k =>
      if k.gen = g ∧ k.sz = s ∧ k.ro = false ∧ 0 < s ∧ off + (min m len) * s ≤ k.cells.length ∧ lo ≤ id then match srcA H s (min m len) y with
        | some new => some (.f (.int .i64 (min m len : Nat)), H.set id { k with cells := setCs k.cells off new })
        | none => none
      else none
    | _, _ => none
  | _, _, _ => none
def makeSliceA (H : Heap) (t : Nat) (l c : AV) : Option (AV × Heap) :=
  match tElem P t, intOfA l, intOfA c with
  | some e, some l, some c => match tSize P e, tBytes P e, tZero P e with
    | some s, some b, some z =>
      if 0 ≤ l ∧ l ≤ c ∧ b * c ≤ 281474976710656 ∧ c ≤ 281474976710656 ∧ 0 < s ∧ z.length = s then
        some (.row H.length 0 0 l.toNat, newBlk H s (List.replicate c.toNat z).flatten)
      else none
    | _, _, _ => none
  | _, _, _ => none
def buildSliceA (H : Heap) (t len : Nat) (parts : List (Nat × AV)) : Option (AV × Heap) :=
  match tElem P t with
  | some e => match tSize P e, tZero P e with
    | some s, some z =>
      if 0 < s ∧ z.length = s ∧ len * s ≤ 16777216 then
        (fillA (fun i => some (i * s, s)) (List.replicate len z).flatten parts).map fun cs => (.row H.length 0 0 len, newBlk H s cs)
      else none
    | _, _ => none
  | none => none
def buildA (t : Nat) (parts : List (Nat × AV)) : Option AV :=
  match P.underlying t, tZero P t with
  | some (.struct fields), some z => match fields.toList.mapM (fun f => (P.info? f.type).map fun i => (f.offset, i.size)) with
    | some places => (fillA (fun i => places[i]?) z parts).map .agg
    | none => none
  | some (.array _ e), some z => match tSize P e with
    | some s => (fillA (fun i => some (i * s, s)) z parts).map .agg
    | none => none
  | _, _ => none
/-- Are two rows of plain cells alike? -/
def eqCells : List AV → List AV → Option Bool
  | [], [] => some true
  | .f (.int k a) :: x, .f (.int k' b) :: y => if k = k' then (eqCells x y).map fun r => decide (a = b) && r else none
  | _, _ => none
def binInt (op : BinOp) (k : IntKind) (a : Int) (k' : IntKind) (b : Int) : Option FV :=
  match op with
  | .shl => if 0 ≤ b then some (.int k (k.wrap (a * 2 ^ (min b.toNat k.bits)))) else none
  | .shr => if 0 ≤ b then some (.int k (a.fdiv (2 ^ (min b.toNat k.bits)))) else none
  | .quo => if k = k' ∧ b ≠ 0 then some (.int k (k.wrap (a.tdiv b))) else none
  | .rem => if k = k' ∧ b ≠ 0 then some (.int k (a.tmod b)) else none
  | .add => if k = k' then some (.int k (k.wrap (a + b))) else none
  | .sub => if k = k' then some (.int k (k.wrap (a - b))) else none
  | .mul => if k = k' then some (.int k (k.wrap (a * b))) else none
  | .and => if k = k' then some (.int k (k.wrap (BitVec.ofInt k.bits a &&& BitVec.ofInt k.bits b).toNat)) else none
  | .or => if k = k' then some (.int k (k.wrap (BitVec.ofInt k.bits a ||| BitVec.ofInt k.bits b).toNat)) else none
  | .xor => if k = k' then some (.int k (k.wrap (BitVec.ofInt k.bits a ^^^ BitVec.ofInt k.bits b).toNat)) else none
  | .andNot => if k = k' then some (.int k (k.wrap (BitVec.ofInt k.bits a &&& ~~~ BitVec.ofInt k.bits b).toNat)) else none
  | .eql => if k = k' then some (.bool (a == b)) else none
  | .neq => if k = k' then some (.bool (a != b)) else none
  | .lss => if k = k' then some (.bool (a < b)) else none
  | .leq => if k = k' then some (.bool (a ≤ b)) else none
  | .gtr => if k = k' then some (.bool (a > b)) else none
  | .geq => if k = k' then some (.bool (a ≥ b)) else none
def binStr (op : BinOp) (a b : ByteArray) : Option FV :=
  match op with
  | .add => if ((a.size + b.size : Nat) : Int) > IntKind.i64.max then none else some (.str (a ++ b))
  | .eql => some (.bool (a.toList == b.toList))
  | .neq => some (.bool !(a.toList == b.toList))
  | .lss => some (.bool (Op.bytesLess a.toList b.toList))
  | .leq => some (.bool (Op.bytesLess a.toList b.toList || a.toList == b.toList))
  | .gtr => some (.bool !(Op.bytesLess a.toList b.toList || a.toList == b.toList))
  | .geq => some (.bool !(Op.bytesLess a.toList b.toList))
  | _ => none
def isNilA : AV → Option Bool
  | .f .nilP | .f .nilS | .f .nilF => some true
  | .ptr .. | .fptr .. | .f (.fz ..) | .row .. | .f (.fn _) | .clo .. => some false
  | _ => none
/-- 0: a pointer; 1: a slice; 2: a function. -/
def nilSort : AV → Nat
  | .f .nilP | .ptr .. | .fptr .. => 0
  | .f .nilS | .f (.fz ..) | .row .. => 1
  | _ => 2
def tSort (t : Nat) : Nat :=
  match P.underlying t with
  | some (.pointer _) => 0
  | some (.slice _) => 1
  | some (.func _ _ _) => 2
  | _ => 3
def nilness (t : Nat) (x y : AV) : Option Bool :=
  match isNilA x, isNilA y with
  | some p, some q => if tSort P t = nilSort x ∧ tSort P t = nilSort y ∧ (p || q) = true then some (p && q) else none
  | _, _ => none
def eqOrNe (op : BinOp) (r : Option Bool) : Option AV :=
  match op, r with
  | .eql, some r => some (.f (.bool r))
  | .neq, some r => some (.f (.bool !r))
  | _, _ => none
def binA (eqT : Nat → Option Nat) (op : BinOp) (t : Nat) (x y : AV) : Option AV :=
  match x, y with
  | .f (.int k a), .f (.int k' b) => (binInt op k a k' b).map .f
  | .f (.str a), .f (.str b) => (binStr op a b).map .f
  | .f (.bool a), .f (.bool b) => if tBool P t then eqOrNe op (some (a == b)) else none
  | .agg xs, .agg ys => if eqT t = some xs.length ∧ eqT t = some ys.length then eqOrNe op (eqCells xs ys) else none
  | x, y => eqOrNe op (nilness P t x y)
def unA (op : UnOp) (x : AV) : Option AV :=
  match op, x with
  | .neg, .f (.int k n) => some (.f (.int k (k.wrap (0 - n))))
  | .xor, .f (.int k n) => some (.f (.int k (k.wrap (BitVec.ofInt k.bits (if k.signed then -1 else k.max) ^^^ BitVec.ofInt k.bits n).toNat)))
  | .not, .f (.bool b) => some (.f (.bool !b))
  | _, _ => none
def convA (src dst : Nat) (x : AV) : Option AV :=
  match P.underlying src, P.underlying dst, x with
  | some _, some (.int k), .f (.int _ n) => some (.f (.int k (k.wrap n)))
  | some _, some .string, .f (.str s) => some (.f (.str s))
  | some _, some .string, .f (.int _ n) => some (.f (.str (Utf8.encode n)))
  | _, _, _ => none
def maxMin (mx : Bool) : List AV → Option AV
  | [.f (.int k a), .f (.int _ b)] => some (.f (.int k (if mx then (if b > a then b else a) else (if b < a then b else a))))
  | _ => none
def nilCheckA (x : AV) : Option AV :=
  match x with
  | .ptr .. | .fptr .. | .clo .. | .f (.fn _) => some x
  | _ => none

/-- What an abstract run takes as given: the callees (by number), the variables' values, the structs that '==' takes. -/
structure Sig where
  G : Nat → Option (List FV)
  eqT : Nat → Option Nat
abbrev CallA := Nat → Nat → List AV → Heap → Option (AV × Heap)
def evArgs (S : Sig) (e : Env) : List Operand → Option (List AV)
  | [] => some []
  | x :: l => match evA S.G e x, evArgs S e l with
    | some v, some r => some (v :: r)
    | _, _ => none
def evParts (S : Sig) (e : Env) : List (Nat × Operand) → Option (List (Nat × AV))
  | [] => some []
  | (i, x) :: l => match evA S.G e x, evParts S e l with
    | some v, some r => some ((i, v) :: r)
    | _, _ => none
def evO (S : Sig) (e : Env) : Option Operand → Option (Option AV)
  | none => some none
  | some x => (evA S.G e x).map some
/-- One operation: its value, the heap behind it. (Each sort of operation has a small definition of its own: the kernel computes with them.) -/
def oPick (S : Sig) (e : Env) (H : Heap) (c a b : Operand) : Option (AV × Heap) := match evA S.G e c with
  | some (.f (.bool t)) => (if t then evA S.G e a else evA S.G e b).map (·, H)
  | _ => none
def oAlloc (H : Heap) (t : Nat) : Option (AV × Heap) := match tZero P t, tSize P t with
  | some z, some s => if z.length = s then some (.ptr H.length 0 0, newBlk H s z) else none
  | _, _ => none
def oBox (S : Sig) (e : Env) (H : Heap) (x : Operand) : Option (AV × Heap) := match evA S.G e x with
  | some v => if v.cells.all AV.isCell = true then some (.ptr H.length 0 0, newBlk H v.cells.length v.cells) else none
  | none => none
def oBuild (S : Sig) (e : Env) (H : Heap) (t : Nat) (parts : Array (Nat × Operand)) : Option (AV × Heap) := (evParts S e parts.toList).bind fun ps => (buildA P t ps).map (·, H)
def oBuildSlice (S : Sig) (e : Env) (H : Heap) (t len : Nat) (parts : Array (Nat × Operand)) : Option (AV × Heap) := (evParts S e parts.toList).bind fun ps => buildSliceA P H t len ps
def oLoad (S : Sig) (e : Env) (H : Heap) (t : Nat) (a : Operand) : Option (AV × Heap) := (evA S.G e a).bind fun p => (loadA P H t p).map (·, H)
def oStore (S : Sig) (lo : Nat) (e : Env) (H : Heap) (t : Nat) (a x : Operand) : Option (AV × Heap) := match evA S.G e a, evA S.G e x with
  | some p, some v => (storeA P lo H t p v).map (.undef, ·)
  | _, _ => none
def oNil (S : Sig) (e : Env) (H : Heap) (x : Operand) : Option (AV × Heap) := (evA S.G e x).bind fun v => (nilCheckA v).map (·, H)
def oBin (S : Sig) (e : Env) (H : Heap) (op : BinOp) (t : Nat) (x y : Operand) : Option (AV × Heap) := match evA S.G e x, evA S.G e y with
  | some a, some b => (binA P S.eqT op t a b).map (·, H)
  | _, _ => none
def oUn (S : Sig) (e : Env) (H : Heap) (op : UnOp) (x : Operand) : Option (AV × Heap) := (evA S.G e x).bind fun v => (unA op v).map (·, H)
def oConv (S : Sig) (e : Env) (H : Heap) (s d : Nat) (x : Operand) : Option (AV × Heap) := (evA S.G e x).bind fun v => (convA P s d v).map (·, H)
def oFunc (S : Sig) (e : Env) (H : Heap) (f : Nat) (first captured : Array Operand) : Option (AV × Heap) := if first.size = 0 then (evArgs S e captured.toList).map fun cs => (.clo f cs, H) else none
def oMake (S : Sig) (e : Env) (H : Heap) (t : Nat) (l c : Operand) : Option (AV × Heap) := match evA S.G e l, evA S.G e c with
  | some a, some b => makeSliceA P H t a b
  | _, _ => none
def oSlice (S : Sig) (e : Env) (H : Heap) (t : Nat) (x : Operand) (lo hi mx : Option Operand) : Option (AV × Heap) := match evA S.G e x, evO S e lo, evO S e hi, evO S e mx with
  | some v, some l, some h, some m => (sliceA P H t v l h m).map (·, H)
  | _, _, _, _ => none
def oFieldAddr (S : Sig) (e : Env) (H : Heap) (s : Nat) (x : Operand) (f : Nat) : Option (AV × Heap) := (evA S.G e x).bind fun v => (fieldAddrA P s v f).map (·, H)
def oField (S : Sig) (e : Env) (H : Heap) (s : Nat) (x : Operand) (f : Nat) : Option (AV × Heap) := (evA S.G e x).bind fun v => (fieldA P s v f).map (·, H)
def oIndexAddr (S : Sig) (e : Env) (H : Heap) (t : Nat) (x i : Operand) : Option (AV × Heap) := match evA S.G e x, evA S.G e i with
  | some v, some n => (indexA P t v n).map (·, H)
  | _, _ => none
def oIndex (S : Sig) (e : Env) (H : Heap) (t : Nat) (x i : Operand) : Option (AV × Heap) := match evA S.G e x, evA S.G e i with
  | some v, some n => (index2A P t v n).map (·, H)
  | _, _ => none
def oExtract (S : Sig) (e : Env) (H : Heap) (t : Operand) (i : Nat) : Option (AV × Heap) := match evA S.G e t with
  | some (.tup vs) => (vs[i]?).map (·, H)
  | _ => none
def oCall (S : Sig) (call : CallA) (lo : Nat) (e : Env) (H : Heap) (fo : Operand) (args : Array Operand) : Option (AV × Heap) := match evA S.G e fo, evArgs S e args.toList with
  | some (.f (.fn f)), some as => call lo f as H
  | some (.clo f cs), some as => call lo f (as ++ cs) H
  | _, _ => none
def oLen (S : Sig) (e : Env) (H : Heap) (ats : Array Nat) (args : Array Operand) : Option (AV × Heap) := match ats[0]?, evArgs S e args.toList with
  | some t, some [x] => (lenT P t x).map fun (n : Nat) => (AV.f (.int .i64 (n : Int)), H)
  | _, _ => none
def oAppend (S : Sig) (lo : Nat) (e : Env) (H : Heap) (ats : Array Nat) (args : Array Operand) : Option (AV × Heap) := match ats[0]?, ats[1]?, evArgs S e args.toList with
  | some t, some t2, some [x, y] => appendA P lo H t t2 x y
  | _, _, _ => none
def oCopy (S : Sig) (lo : Nat) (e : Env) (H : Heap) (ats : Array Nat) (args : Array Operand) : Option (AV × Heap) := match ats[0]?, evArgs S e args.toList with
  | some t, some [x, y] => copyA P lo H t x y
  | _, _ => none
def oMaxMin (S : Sig) (e : Env) (H : Heap) (mx : Bool) (args : Array Operand) : Option (AV × Heap) := (evArgs S e args.toList).bind fun as => (maxMin mx as).map (·, H)
def evOp (S : Sig) (call : CallA) (lo : Nat) (o : Op) (e : Env) (H : Heap) : Option (AV × Heap) :=
  match o with
  | .move x => (evA S.G e x).map (·, H)
  | .assign x => (evA S.G e x).map (·, H)
  | .pick c a b => oPick S e H c a b
  | .alloc t => oAlloc P H t
  | .box _ x => oBox S e H x
  | .build t parts => oBuild P S e H t parts
  | .buildSlice t len parts => oBuildSlice P S e H t len parts
  | .load t a => oLoad P S e H t a
  | .store t a x => oStore P S lo e H t a x
  | .nilCheck x => oNil S e H x
  | .binOp op t x y _ => oBin P S e H op t x y
  | .unOp op _ x => oUn S e H op x
  | .convert s d x => oConv P S e H s d x
  | .makeFunc (.func f) first captured => oFunc S e H f first captured
  | .makeSlice t l c => oMake P S e H t l c
  | .slice t x lo hi mx => oSlice P S e H t x lo hi mx
  | .fieldAddr s x f => oFieldAddr P S e H s x f
  | .field s x f => oField P S e H s x f
  | .indexAddr t x i => oIndexAddr P S e H t x i
  | .index t x i => oIndex P S e H t x i
  | .extract t i => oExtract S e H t i
  | .call ⟨.value fo, args, _⟩ => oCall S call lo e H fo args
  | .call ⟨.builtin .len, args, ats⟩ => oLen P S e H ats args
  | .call ⟨.builtin .append, args, ats⟩ => oAppend P S lo e H ats args
  | .call ⟨.builtin .copy, args, ats⟩ => oCopy P S lo e H ats args
  | .call ⟨.builtin .max, args, _⟩ => oMaxMin S e H true args
  | .call ⟨.builtin .min, args, _⟩ => oMaxMin S e H false args
  | _ => none
end
end Go.Proofs.YtbjcghnhhgdopaaGreatDoor.Ai
