/- An interpreter of function bodies without memory, proved sound for the model. No conditions. -/
import Derived.Calls
import Derived.Laws.Sem
import Derived.Test.YtgclpapfgmckbaaDoorOwn1
set_option linter.all false

namespace Go.Own
abbrev Path := List (Nat × Nat)
inductive D where
  | undef
  | lit (v : Value)
  | sl (es : List (List D))
  | own (es : List (List D))
  | agg (cs : List D)
  | box (cs : List D)
  | ref (cs : List D)
  | map (es : List (Value × D))
  | bld (t e : Nat) (l : List UInt8)
  | fn (f : Nat) (caps : List D)
  | tup (ds : List D)
  | alias (s : Nat) (ps : Path)
  | sub (s : Nat) (ps : Path) (off len : Nat)
  | place (s : Nat) (ps : Path) (i o : Nat)
  deriving Inhabited
namespace D
def cells : D → List D
  | agg cs => cs
  | d => [d]
def elem : D → Nat → Option (List D)
  | own es, i => es[i]?
  | box cs, 0 => some cs
  | agg cs, 0 => some cs
  | tup cs, 0 => some cs
  | _, _ => none
def setElem : D → Nat → List D → Option D
  | own es, i, cs => some (own (es.set i cs))
  | box _, 0, cs => some (box cs)
  | agg _, 0, cs => some (agg cs)
  | tup _, 0, cs => some (tup cs)
  | _, _, _ => none
def getP : D → Path → Option D
  | d, [] => some d
  | d, (i, o) :: ps => match d.elem i with
    | some cs => match cs[o]? with
      | some c => getP c ps
      | none => none
    | none => none
def setP : D → Path → D → Option D
  | _, [], x => some x
  | d, (i, o) :: ps, x => match d.elem i with
    | some cs => match cs[o]? with
      | some c => match setP c ps x with
        | some c' => d.setElem i (cs.set o c')
        | none => none
      | none => none
    | none => none
def ex1 : D → Bool
  | own _ | box _ | map _ | bld .. => true
  | _ => false
def node1 : D → Bool
  | own _ | box _ | map _ | bld .. | sl _ | ref _ => true
  | _ => false
def ex2 : D → Bool
  | own _ | box _ | map _ | bld .. => true
  | agg cs => cs.any ex1
  | _ => false
def excl : D → Bool
  | own _ | box _ | map _ | bld .. => true
  | agg cs => cs.any ex1
  | tup ds => ds.any ex2
  | _ => false
def pts1 : D → Bool
  | alias .. | sub .. | place .. => true
  | _ => false
def pre : Path → Path → Bool
  | [], _ => true
  | (a, b) :: p, (c, d) :: q => a == c && b == d && pre p q
  | _, _ => false
def kill1 (dead : Bool → Nat → Path → Bool) : D → D
  | alias s ps => if dead true s ps then undef else alias s ps
  | sub s ps a b => if dead false s ps then undef else sub s ps a b
  | place s ps i o => if dead false s ps then undef else place s ps i o
  | d => d
def kill2 (dead : Bool → Nat → Path → Bool) : D → D
  | agg cs => agg (cs.map (kill1 dead))
  | fn f cs => fn f (cs.map (kill1 dead))
  | d => kill1 dead d
def deadAt (s : Nat) (q : Path) (_ : Bool) (s' : Nat) (p : Path) : Bool := s' == s && pre q p
def deadIn (s : Nat) (q : Path) (b : Bool) (s' : Nat) (p : Path) : Bool := s' == s && pre q p && !(b && p.length == q.length)
def cellIn (i o n : Nat) : Path → Bool
  | (i', c) :: _ => i' == i && decide (o ≤ c) && decide (c < o + n)
  | [] => false
def deadCells (s : Nat) (q : Path) (i o n : Nat) (_ : Bool) (s' : Nat) (p : Path) : Bool := s' == s && pre q p && cellIn i o n (p.drop q.length)
def view1 (s : Nat) (ps : Path) : D → D
  | own _ | box _ | map _ | bld .. => alias s ps
  | d => d
def viewCells (s : Nat) (ps : Path) (i : Nat) : Nat → List D → List D
  | _, [] => []
  | o, c :: cs => view1 s (ps ++ [(i, o)]) c :: viewCells s ps i (o + 1) cs
def view (s : Nat) (ps : Path) : D → D
  | agg cs => agg (viewCells s ps 0 0 cs)
  | tup _ => undef
  | d => view1 s ps d
def ofCells (isAgg : Bool) (cs : List D) : Option D :=
  if isAgg then some (agg cs) else match cs with | [c] => some c | _ => none
mutual
def freeze : D → Option D
  | lit v => some (lit v)
  | sl es => some (sl es)
  | ref cs => some (ref cs)
  | own es => (freezeEs es).map sl
  | box cs => (freezeCs cs).map ref
  | agg cs => (freezeCs cs).map agg
  | fn f cs => (freezeCs cs).map (fn f)
  | _ => none
def freezeCs : List D → Option (List D)
  | [] => some []
  | c :: cs => match freeze c, freezeCs cs with
    | some c', some cs' => some (c' :: cs')
    | _, _ => none
def freezeEs : List (List D) → Option (List (List D))
  | [] => some []
  | c :: cs => match freezeCs c, freezeEs cs with
    | some c', some cs' => some (c' :: cs')
    | _, _ => none
end
mutual
def flat : D → Bool
  | lit _ => true
  | agg cs => flatCs cs
  | own es => flatEs es
  | tup cs => flatCs cs
  | _ => false
def flatCs : List D → Bool
  | [] => true
  | c :: cs => flat c && flatCs cs
def flatEs : List (List D) → Bool
  | [] => true
  | c :: cs => flatCs c && flatEs cs
end
end D
open D
abbrev Fr := List (Nat × D)
def get : Fr → Nat → D
  | [], _ => D.undef
  | (k, d) :: r, s => if k = s then d else get r s
def put0 : Fr → Nat → D → Fr
  | [], s, d => [(s, d)]
  | (k, e) :: r, s, d => if k = s then (s, d) :: r else (k, e) :: put0 r s d
def killF (dead : Bool → Nat → Path → Bool) (F : Fr) : Fr := F.map fun x => (x.1, D.kill2 dead x.2)
def kill (F : Fr) (s : Nat) (q : Path) : Fr := killF (deadAt s q) F
def killB (F : Fr) (s : Nat) (q : Path) : Fr := killF (deadIn s q) F
def D.quiet : D → Bool
  | lit _ => true
  | undef => true
  | _ => false
def put (F : Fr) (s : Nat) (d : D) : Fr :=
  if (get F s).quiet then put0 F s d else kill (put0 F s d) s []
def fin (F : Fr) (dst : Option Nat) (d : D) : Fr := match dst with
  | some s => put F s d
  | none => F
def getAt (F : Fr) (s : Nat) (ps : Path) : Option D := (get F s).getP ps
def setAt (F : Fr) (s : Nat) (ps : Path) (d : D) : Option Fr := ((get F s).setP ps d).map (put0 F s)
def nilSlice : Value → Bool
  | .slice none 0 0 => true
  | _ => false
def const1 (v : Value) : D := if nilSlice v then own [] else lit v
def constD : Value → D
  | .agg cs => agg (cs.toList.map const1)
  | v => const1 v
def constOK : Value → Bool
  | .agg cs => cs.toList.all Value.oneCell'
  | v => v.oneCell'
inductive Mode | snap | move | inout
  deriving DecidableEq
structure Env where
  P : Program
  mode : Nat → Nat → Mode
  prim : Nat → Option (List D → Option (D × List D))
  vars : Nat → List Nat
  eager : Nat → Nat → Bool
  bld : Nat → Option Nat := fun _ => none
  good : (Nat → Option Obj) → Prop := fun _ => True
  keep : Nat → Nat → Nat → Option (List Nat) := fun _ _ _ => none
def lent (i : Nat) : Nat := 1000000 + i
section types
variable (P : Program)
def isAggT (t : Nat) : Bool := match P.underlying t with
  | some (.struct _) | some (.array _ _) => true
  | _ => false
def sizeT (t : Nat) : Nat := ((P.info? t).map (·.size)).getD 0
def bytesT (t : Nat) : Nat := ((P.info? t).map (·.bytes)).getD 0
def sliceT (t : Nat) : Option Nat := match P.underlying t with
  | some (.slice e) => some e
  | _ => none
def rowT (t : Nat) : Bool := match P.underlying t with
  | some (.slice _) => true
  | some .string => true
  | _ => false
def arrayT (t : Nat) : Option (Nat × Nat) := match P.underlying t with
  | some (.array n e) => some (n, e)
  | _ => none
def mapT (t : Nat) : Option (Nat × Nat) := match P.underlying t with
  | some (.map k e) => some (k, e)
  | _ => none
def fieldT (t j : Nat) : Option Field := match P.underlying t with
  | some (.struct fs) => fs[j]?
  | _ => none
def zeroT (t : Nat) : Option D := match (P.info? t).bind (·.zero) with
  | some v => if constOK v then some (constD v) else none
  | none => none
end types
def opd (E : Env) (F : Fr) : Operand → Option D
  | .tmp t => some (view t [] (get F t))
  | .const v => if constOK v then some (constD v) else none
  | .func f => some (fn f [])
  | .global _ => none
def takeAt (F : Fr) (s : Nat) (ps : Path) : Option (D × Fr) := match getAt F s ps with
  | some c =>
    if c.ex1 then match setAt F s ps D.undef with
      | some F' => some (c, kill F' s ps)
      | none => none
    else match c with
      | sl es => some (sl es, F)
      | ref cs => some (ref cs, F)
      | _ => none
  | none => none
def takeSub (F : Fr) (s : Nat) (ps : Path) (off len : Nat) : Option (D × Fr) := match getAt F s ps with
  | some (own es) => if len = 0 then some (sl [], F)
    else if off = 0 ∧ len ≤ es.length then match setAt F s ps D.undef with
      | some F' => some (own (es.take len), kill F' s ps)
      | none => none
    else none
  | some (sl es) => if off + len ≤ es.length then some (sl ((es.drop off).take len), F) else none
  | _ => none
def takeCell (F : Fr) : D → Option (D × Fr)
  | alias s ps => takeAt F s ps
  | sub s ps a b => takeSub F s ps a b
  | lit v => some (lit v, F)
  | sl es => some (sl es, F)
  | ref cs => some (ref cs, F)
  | fn f cs => some (fn f cs, F)
  | .undef => some (.undef, F)
  | _ => none
def takeCells (F : Fr) (t o : Nat) : Nat → Option (List D × Fr)
  | 0 => some ([], F)
  | k + 1 => match get F t with
    | agg cs => match cs[o]? with
      | some c => match takeCell F c with
        | some (c', F1) => match takeCells F1 t (o + 1) k with
          | some (cs', F2) => some (c' :: cs', F2)
          | none => none
        | none => none
      | none => none
    | _ => none
def bad1 : D → Bool
  | alias .. | sub .. | place .. | .undef => true
  | _ => false
def takeSlot (F : Fr) (t : Nat) : D → Option (D × Fr)
  | agg cs =>
    if cs.any ex1 then
      if cs.any pts1 then none else some (agg cs, kill (put0 F t D.undef) t [])
    else match takeCells F t 0 cs.length with
      | some (cs', F') => some (agg cs', F')
      | none => none
  | fn f cs => if cs.any bad1 then none else some (fn f cs, F)
  | own es => some (own es, kill (put0 F t D.undef) t [])
  | box es => some (box es, kill (put0 F t D.undef) t [])
  | map es => some (map es, kill (put0 F t D.undef) t [])
  | bld t' e l => some (bld t' e l, kill (put0 F t D.undef) t [])
  | alias s ps => takeAt F s ps
  | sub s ps a b => takeSub F s ps a b
  | lit v => some (lit v, F)
  | sl es => some (sl es, F)
  | ref cs => some (ref cs, F)
  | _ => none
def takeOp (E : Env) (F : Fr) : Operand → Option (D × Fr)
  | .tmp t => takeSlot F t (get F t)
  | .const v => if constOK v then some (constD v, F) else none
  | .func f => some (fn f [], F)
  | .global _ => none
inductive Ptr | imm (cs : List D) | loc (s : Nat) (ps : Path) (i o : Nat)
def ptrOf (F : Fr) : D → Option Ptr
  | ref cs => some (.imm cs)
  | place s ps i o => some (.loc s ps i o)
  | alias s ps => match getAt F s ps with
    | some (box _) => some (.loc s ps 0 0)
    | some (ref cs) => some (.imm cs)
    | _ => none
  | _ => none
def loadD (E : Env) (F : Fr) (t : Nat) (x : D) : Option D := if (E.P.underlying t).isNone then none else match ptrOf F x with
  | some (.imm cs) => if sizeT E.P t ≤ cs.length then ofCells (isAggT E.P t) (cs.take (sizeT E.P t)) else none
  | some (.loc s ps i o) => match getAt F s ps with
    | some nd => match nd.elem i with
      | some ec => if o + sizeT E.P t ≤ ec.length then ofCells (isAggT E.P t) (viewCells s ps i o ((ec.drop o).take (sizeT E.P t))) else none
      | none => none
    | none => none
  | none => none
def storeD (E : Env) (F : Fr) (t : Nat) (x y : D) : Option Fr := match ptrOf F x with
  | some (.loc s ps i o) => match getAt F s ps with
    | some nd => match nd.elem i with
      | some ec =>
        if y.cells.length = sizeT E.P t ∧ o + sizeT E.P t ≤ ec.length then
          match nd.setElem i (ec.take o ++ y.cells ++ ec.drop (o + sizeT E.P t)) with
          | some nd' => match setAt F s ps nd' with
            | some F' => some (if ((ec.drop o).take (sizeT E.P t)).any node1 then killF (deadCells s ps i o (sizeT E.P t)) F' else F')
            | none => none
          | none => none
        else none
      | none => none
    | none => none
  | _ => none
def asInt : D → Option Int
  | lit (.int _ n) => some n
  | _ => none
def asNat (d : D) : Option Nat := match asInt d with
  | some n => if 0 ≤ n then some n.toNat else none
  | none => none
def elemsOf (F : Fr) : D → Option (List (List D))
  | sl es => some es
  | alias s ps => match getAt F s ps with
    | some (own es) => some es
    | some (sl es) => some es
    | _ => none
  | sub s ps off len => match getAt F s ps with
    | some (own es) => if off + len ≤ es.length then some ((es.drop off).take len) else none
    | some (sl es) => if off + len ≤ es.length then some ((es.drop off).take len) else none
    | _ => none
  | _ => none
def indexAddrD (E : Env) (F : Fr) (t : Nat) (x ix : D) : Option D := match asNat ix with
  | none => none
  | some i => match sliceT E.P t with
    | some e => match x with
      | sl es => match es[i]? with
        | some c => if c.length = sizeT E.P e then some (ref c) else none
        | none => none
      | alias s ps => match getAt F s ps with
        | some (own es) => match es[i]? with
          | some c => if c.length = sizeT E.P e then some (place s ps i 0) else none
          | none => none
        | some (sl es) => match es[i]? with
          | some c => if c.length = sizeT E.P e then some (ref c) else none
          | none => none
        | _ => none
      | sub s ps off len => if i < len then match getAt F s ps with
        | some (own es) => match es[off + i]? with
          | some c => if c.length = sizeT E.P e ∧ off + len ≤ es.length then some (place s ps (off + i) 0) else none
          | none => none
        | some (sl es) => match es[off + i]? with
          | some c => if c.length = sizeT E.P e ∧ off + len ≤ es.length then some (ref c) else none
          | none => none
        | _ => none
        else none
      | _ => none
    | none => match arrayT E.P t with
      | some (n, e) => if i < n then (if sizeT E.P e = 0 then none else match ptrOf F x with
          | some (.imm cs) => some (ref (cs.drop (i * sizeT E.P e)))
          | some (.loc s ps k o) => some (place s ps k (o + i * sizeT E.P e))
          | none => none)
        else none
      | none => none
def binV (op : BinOp) : Value → Value → Option Value
  | .int k a, .int k' b =>
    match op with
    | .shl => if b < 0 then none else some (.int k (k.wrap (a * 2 ^ (min b.toNat k.bits))))
    | .shr => if b < 0 then none else some (.int k (a.fdiv (2 ^ (min b.toNat k.bits))))
    | op => if k ≠ k' then none else match op with
      | .add => some (.int k (k.wrap (a + b)))
      | .sub => some (.int k (k.wrap (a - b)))
      | .mul => some (.int k (k.wrap (a * b)))
      | .quo => if b = 0 then none else some (.int k (k.wrap (a.tdiv b)))
      | .rem => if b = 0 then none else some (.int k (a.tmod b))
      | .and => some (.int k (k.wrap (BitVec.ofInt k.bits a &&& BitVec.ofInt k.bits b).toNat))
      | .or => some (.int k (k.wrap (BitVec.ofInt k.bits a ||| BitVec.ofInt k.bits b).toNat))
      | .xor => some (.int k (k.wrap (BitVec.ofInt k.bits a ^^^ BitVec.ofInt k.bits b).toNat))
      | .andNot => some (.int k (k.wrap (BitVec.ofInt k.bits a &&& ~~~ BitVec.ofInt k.bits b).toNat))
      | .eql => some (.bool (a == b))
      | .neq => some (.bool (a != b))
      | .lss => some (.bool (decide (a < b)))
      | .leq => some (.bool (decide (a ≤ b)))
      | .gtr => some (.bool (decide (a > b)))
      | .geq => some (.bool (decide (a ≥ b)))
      | _ => none
  | .string a, .string b =>
    match op with
    | .add => if a.size + b.size ≤ 9223372036854775807 then some (.string (a ++ b)) else none
    | .eql => some (.bool (a.toList == b.toList))
    | .neq => some (.bool !(a.toList == b.toList))
    | .lss => some (.bool (Op.bytesLess a.toList b.toList))
    | .leq => some (.bool (Op.bytesLess a.toList b.toList || a.toList == b.toList))
    | .gtr => some (.bool !(Op.bytesLess a.toList b.toList || a.toList == b.toList))
    | .geq => some (.bool !(Op.bytesLess a.toList b.toList))
    | _ => none
  | _, _ => none
def eqFieldsD (P : Program) (xs ys : List D) : List Field → Option Bool
  | [] => some true
  | f :: fs => if f.name = "_" then none else match P.underlying f.type, xs[f.offset]?, ys[f.offset]? with
    | some (.int _), some (lit (.int k a)), some (lit (.int k' b)) => if k = k' then (if a == b then eqFieldsD P xs ys fs else some false) else none
    | some .bool, some (lit (.bool a)), some (lit (.bool b)) => if a == b then eqFieldsD P xs ys fs else some false
    | some .string, some (lit (.string a)), some (lit (.string b)) => if a.toList == b.toList then eqFieldsD P xs ys fs else some false
    | _, _, _ => none
def binD (E : Env) (op : BinOp) (t : Nat) : D → D → Option D
  | agg xs, agg ys => match E.P.underlying t with
    | some (.struct fs) => if E.P.stoodInHeld t || E.P.eqGuardType E.P.depth t then none else match op, eqFieldsD E.P xs ys fs.toList with
      | .eql, some b => some (lit (.bool b))
      | .neq, some b => some (lit (.bool !b))
      | _, _ => none
    | _ => none
  | lit a, lit b => match a, b with
    | .bool x, .bool y => match op, E.P.underlying t with
      | .eql, some .bool => some (lit (.bool (x == y)))
      | .neq, some .bool => some (lit (.bool (x != y)))
      | _, _ => none
    | a, b => (binV op a b).map lit
  | _, _ => none
def unV (op : UnOp) : Value → Option Value
  | .int k n => match op with
    | .neg => some (.int k (k.wrap (0 - n)))
    | .xor => some (.int k (k.wrap (BitVec.ofInt k.bits (if k.signed then -1 else k.max) ^^^ BitVec.ofInt k.bits n).toNat))
    | _ => none
  | .bool b => match op with
    | .not => some (.bool !b)
    | _ => none
  | _ => none
def lenD (E : Env) (F : Fr) (t : Nat) (d : D) : Option D := match E.P.underlying t, d with
  | some .string, lit (.string s) => some (lit (.int .i64 s.size))
  | some (.slice _), own [] => some (lit (.int .i64 0))
  | some (.slice _), d => (elemsOf F d).map fun es => lit (.int .i64 es.length)
  | some (.map _ _), alias s ps => match getAt F s ps with
    | some (map es) => some (lit (.int .i64 es.length))
    | _ => none
  | _, _ => none
def fillD (place : Nat → Option (Nat × Nat)) (cells : List D) : List (Nat × D) → Option (List D)
  | [] => some cells
  | (i, v) :: r => match place i with
    | some (off, size) =>
      if v.cells.length = size ∧ off + size ≤ cells.length then
        fillD place (cells.take off ++ v.cells ++ cells.drop (off + size)) r
      else none
    | none => none
def takeParts (E : Env) (F : Fr) : List (Nat × Operand) → Option (List (Nat × D) × Fr)
  | [] => some ([], F)
  | (i, x) :: r => match takeOp E F x with
    | some (d, F1) => match takeParts E F1 r with
      | some (ds, F2) => some ((i, d) :: ds, F2)
      | none => none
    | none => none
def setElems (size : Nat) (es : List (List D)) : List (Nat × D) → Option (List (List D))
  | [] => some es
  | (i, d) :: r => if d.cells.length = size ∧ i < es.length then setElems size (es.set i d.cells) r else none
def freezeAt (F : Fr) (s : Nat) (ps : Path) : Option D := match getAt F s ps with
  | some c => c.freeze
  | none => none
def snap1 (F : Fr) : D → Option D
  | alias s ps => freezeAt F s ps
  | sub s ps off len => match freezeAt F s ps with
    | some (sl es) => if off + len ≤ es.length then some (sl ((es.drop off).take len)) else none
    | _ => none
  | place s ps i o => match freezeAt F s ps with
    | some (sl es) => (es[i]?).map fun cs => ref (cs.drop o)
    | some (ref cs) => if i = 0 then some (ref (cs.drop o)) else none
    | _ => none
  | d => d.freeze
def snaps1 (F : Fr) : List D → Option (List D)
  | [] => some []
  | c :: cs => match snap1 F c, snaps1 F cs with
    | some c', some cs' => some (c' :: cs')
    | _, _ => none
def snapD (F : Fr) : D → Option D
  | agg cs => (snaps1 F cs).map agg
  | fn f cs => (snaps1 F cs).map (fn f)
  | d => snap1 F d
def frzAt (F : Fr) (s : Nat) (ps : Path) : Option Fr := match getAt F s ps with
  | some c =>
    if c.ex1 then match c.freeze with
      | some c' => (setAt F s ps c').map fun F' => killB F' s ps
      | none => none
    else if c.node1 then some F else none
  | none => none
def frz1 (F : Fr) : D → Option Fr
  | alias s ps => frzAt F s ps
  | sub s ps _ _ => frzAt F s ps
  | place .. => none
  | _ => some F
def frzs (F : Fr) : List D → Option Fr
  | [] => some F
  | c :: cs => match frz1 F c with
    | some F1 => frzs F1 cs
    | none => none
def frzD (F : Fr) : D → Option Fr
  | agg cs => frzs F cs
  | fn _ cs => frzs F cs
  | d => frz1 F d
def shares1 (F : Fr) : D → Bool
  | alias s ps => match getAt F s ps with
    | some c => c.excl
    | none => false
  | sub s ps _ _ => match getAt F s ps with
    | some c => c.excl
    | none => false
  | place .. => true
  | _ => false
def sharesD (F : Fr) : D → Bool
  | agg cs => cs.any (shares1 F)
  | fn _ cs => cs.any (shares1 F)
  | d => shares1 F d
inductive Ex | normal | exit (id : Nat) | ret
inductive Arg | opn (x : Operand) | cap (j : Nat)
def capsOf (E : Env) (F : Fr) (x : Operand) : List D := match opd E F x with
  | some (fn _ cs) => cs
  | _ => []
def argD (E : Env) (F : Fr) (c : Operand) : Arg → Option D
  | .opn x => opd E F x
  | .cap j => (capsOf E F c)[j]?
def passMoves (E : Env) (f : Nat) : Nat → Fr → List Arg → Option (List (Option D) × Fr)
  | _, F, [] => some ([], F)
  | i, F, a :: ags => match E.mode f i, a with
    | .move, .opn x => match takeOp E F x with
      | some (d, F1) => match passMoves E f (i + 1) F1 ags with
        | some (ds, F2) => some (some d :: ds, F2)
        | none => none
      | none => none
    | .move, .cap _ => none
    | _, _ => match passMoves E f (i + 1) F ags with
      | some (ds, F2) => some (none :: ds, F2)
      | none => none
def lendAt : Option D → Option (Option (Nat × Path)) → Option (Option (Nat × Path))
  | some (alias s ps), some none => some (some (s, ps))
  | _, _ => none
def lentFrom (E : Env) (f : Nat) (F : Fr) (c : Operand) : Nat → List Arg → Option (Option (Nat × Path))
  | _, [] => some none
  | i, a :: ags => match E.mode f i with
    | .inout => lendAt (argD E F c a) (lentFrom E f F c (i + 1) ags)
    | _ => lentFrom E f F c (i + 1) ags
def restOne : Option D → Mode → Option D → Option D → Option D
  | some d, _, _, _ => some d
  | none, .inout, l, _ => l
  | none, .snap, _, s => s
  | none, .move, _, _ => none
def passRest (E : Env) (f : Nat) (F F2 : Fr) (c : Operand) (l : Option D) : Nat → List Arg → List (Option D) → Option (List D)
  | _, [], [] => some []
  | i, a :: ags, m :: ms => match restOne m (E.mode f i) l ((argD E F c a).bind (snapD F2)), passRest E f F F2 c l (i + 1) ags ms with
    | some d, some ds => some (d :: ds)
    | _, _ => none
  | _, _, _ => none
def snapSrcs (E : Env) (f : Nat) (F : Fr) (c : Operand) : Nat → List Arg → List D
  | _, [] => []
  | i, a :: ags => (match E.mode f i with
    | .snap => (argD E F c a).getD D.undef
    | _ => D.undef) :: snapSrcs E f F c (i + 1) ags
def frzAll (F : Fr) : List D → Option Fr
  | [] => some F
  | d :: ds => match frzD F d with
    | some F' => frzAll F' ds
    | none => none
def holeC (F : Fr) : Option (Nat × Path) → Option (Option D × Fr)
  | none => some (none, F)
  | some (s, ps) => match getAt F s ps with
    | some d => if d.ex1 then (setAt F s ps D.undef).map fun F' => (some d, F') else none
    | none => none
def giveBack (F : Fr) : Option (Nat × Path) → List D → Option Fr
  | none, [] => some F
  | some (s, q), [c] => if c.node1 then (setAt F s q c).map fun F' => killB F' s q else none
  | _, _ => none
def argsOf (xs : List Operand) (n : Nat) : List Arg := xs.map .opn ++ (List.range n).map .cap
def callC (E : Env) (call : Nat → List D → Option (D × List D)) (F : Fr) (f : Nat) (c : Operand) (args : List Arg) : Option (D × Fr) :=
  match passMoves E f 0 F args with
  | none => none
  | some (ms, F1) => match lentFrom E f F1 c 0 args with
    | none => none
    | some l => match holeC F1 l with
      | none => none
      | some (ld, F2) => match passRest E f F1 F2 c ld 0 args ms with
        | none => none
        | some ds => match call f ds with
          | none => none
          | some (r, outs) =>
            match (if r.flat && outs.all flat then some F1 else frzAll F1 (snapSrcs E f F1 c 0 args)) with
            | none => none
            | some F3 => (giveBack F3 l outs).map fun F4 => (r, F4)
def keepable (V : List Nat) (dst : Option Nat) (s : Nat) : Bool := V.contains s && dst != some s
def assignC (E : Env) (f : Nat) (V : List Nat) (F : Fr) (dst : Option Nat) (x : Operand) : Option Fr := match x with
  | .tmp t => match get F t with
    | alias s ps => if keepable V dst s && !(E.eager f (dst.getD 0)) then some (fin F dst (alias s ps))
      else (takeAt F s ps).map fun r => fin r.2 dst r.1
    | sub s ps a b => if keepable V dst s && !(E.eager f (dst.getD 0)) then some (fin F dst (sub s ps a b))
      else (takeSub F s ps a b).map fun r => fin r.2 dst r.1
    | place s ps i o => if keepable V dst s then some (fin F dst (place s ps i o)) else none
    | fn g cs => some (fin F dst (fn g cs))
    | d => if d.excl && V.contains t then some (fin F dst (view t [] d))
      else (takeOp E F (.tmp t)).map fun r => fin r.2 dst r.1
  | x => (takeOp E F x).map fun r => fin r.2 dst r.1
def wide (k : Nat) (es : List (List D)) : Bool := match es with
  | c :: _ => c.length == k
  | [] => true
def sliceD (E : Env) (F : Fr) (t : Nat) (x : D) (lo hi : Option Nat) : Option D := match x with
  | lit (.string s) => match E.P.underlying t with
    | some .string => if lo.getD 0 ≤ hi.getD s.size ∧ hi.getD s.size ≤ s.size then some (lit (.string (s.extract (lo.getD 0) (hi.getD s.size)))) else none
    | _ => none
  | sl es => match sliceT E.P t with
    | some e => if lo.getD 0 ≤ hi.getD es.length ∧ hi.getD es.length ≤ es.length ∧ wide (sizeT E.P e) es ∧ 0 < sizeT E.P e then some (sl ((es.drop (lo.getD 0)).take (hi.getD es.length - lo.getD 0))) else none
    | none => none
  | alias s ps => match sliceT E.P t, elemsOf F (alias s ps) with
    | some e, some es => if lo.getD 0 ≤ hi.getD es.length ∧ hi.getD es.length ≤ es.length ∧ wide (sizeT E.P e) es ∧ 0 < sizeT E.P e then some (sub s ps (lo.getD 0) (hi.getD es.length - lo.getD 0)) else none
    | _, _ => none
  | sub s ps off len => match sliceT E.P t, elemsOf F (alias s ps) with
    | some e, some es => if lo.getD 0 ≤ hi.getD len ∧ hi.getD len ≤ len ∧ wide (sizeT E.P e) es ∧ 0 < sizeT E.P e then some (sub s ps (off + lo.getD 0) (hi.getD len - lo.getD 0)) else none
    | _, _ => none
  | _ => none
def optNat (E : Env) (F : Fr) : Option Operand → Option (Option Nat)
  | none => some none
  | some x => match opd E F x with
    | some d => (asNat d).map some
    | none => none
def bytesD (s : ByteArray) : List (List D) := s.data.toList.map fun c => [lit (.int .u8 c.toNat)]
def byteOfD : List D → Option UInt8
  | [lit (.int .u8 n)] => if 0 ≤ n ∧ n < 256 then some (UInt8.ofNat n.toNat) else none
  | _ => none
def bytesOfD : List (List D) → Option (List UInt8)
  | [] => some []
  | c :: cs => match byteOfD c, bytesOfD cs with
    | some b, some bs => some (b :: bs)
    | _, _ => none
def convertD (E : Env) (F : Fr) (s t : Nat) (x : D) : Option D := match E.P.underlying s, E.P.underlying t, x with
  | some (.int _), some (.int k), lit (.int _ n) => some (lit (.int k (k.wrap n)))
  | some (.int _), some .string, lit (.int _ n) => some (lit (.string (Utf8.encode n)))
  | some .string, some .string, lit (.string b) => some (lit (.string b))
  | some .string, some (.slice e), lit (.string b) => match E.P.underlying e with
    | some (.int .u8) => if b.size ≤ 9223372036854775807 then some (sl (bytesD b)) else none
    | _ => none
  | some (.slice e), some .string, d => match E.P.underlying e, elemsOf F d with
    | some (.int .u8), some es => (bytesOfD es).map fun l => lit (.string ⟨l.toArray⟩)
    | _, _ => none
  | _, _, _ => none
def newElems (E : Env) (F : Fr) (y : Operand) : Option (List (List D) × Fr) := match opd E F y with
  | some (lit (.string s)) => some (bytesD s, F)
  | some (sl es) => some (es, F)
  | some (alias s ps) => match getAt F s ps with
    | some (sl es) => some (es, F)
    | some (own es) =>
      if es.any fun c => c.any ex1 then
        match y with
        | .tmp t => match get F t with
          | own es => some (es, kill (put0 F t D.undef) t [])
          | _ => none
        | _ => none
      else some (es, F)
    | _ => none
  | some (sub s ps off len) => match elemsOf F (sub s ps off len) with
    | some es => if es.any fun c => c.any ex1 then none else some (es, F)
    | none => none
  | some (own es) => some (es, F)
  | _ => none
def appendC (E : Env) (F : Fr) (t : Nat) (dst : Option Nat) (x y : Operand) : Option Fr := match sliceT E.P t with
  | none => none
  | some e => match zeroT E.P e with
    | none => none
    | some z => match takeOp E F x with
      | some (own es, F1) => match newElems E F1 y with
        | some (new, F2) =>
          if (es.length + new.length) * bytesT E.P e ≤ 140737488355328 ∧ es.length + new.length ≤ 9223372036854775807 ∧ z.cells.length = sizeT E.P e ∧ 0 < sizeT E.P e ∧ (es.all fun c => c.length == sizeT E.P e) = true ∧ (new.all fun c => c.length == sizeT E.P e) = true then
            some (fin F2 dst (own (es ++ new)))
          else none
        | none => none
      | _ => none
def partD (E : Env) (t : Nat) (cs : List D) (off : Nat) : Option D :=
  if (E.P.underlying t).isSome ∧ off + sizeT E.P t ≤ cs.length then ofCells (isAggT E.P t) ((cs.drop off).take (sizeT E.P t)) else none
def intOf2 (op : Int → Int → Int) : List D → Option D
  | [lit (.int k a), lit (.int k' b)] => if k = k' then some (lit (.int k (op a b))) else none
  | _ => none
def cellBeq : Value → Value → Bool
  | .int k m, .int k' n => k == k' && m == n
  | .string m, .string n => m == n
  | _, _ => false
def keyBeq : Value → Value → Bool
  | .int k a, .int k' b => k == k' && a == b
  | .string a, .string b => a == b
  | .agg a, .agg b => a.size == b.size && (a.toList.zip b.toList).all fun x => cellBeq x.1 x.2
  | _, _ => false
def litsOf : List D → Option (List Value)
  | [] => some []
  | lit v :: r => (litsOf r).map (v :: ·)
  | _ :: _ => none
def keyOf : D → Option Value
  | lit v => some v
  | agg cs => (litsOf cs).map fun l => .agg l.toArray
  | _ => none
def look (k : Value) : List (Value × D) → Option D
  | [] => none
  | (k', d) :: r => if keyBeq k k' then some d else look k r
def upd (k : Value) (d : D) : List (Value × D) → List (Value × D)
  | [] => [(k, d)]
  | (k', d') :: r => if keyBeq k k' then (k', d) :: r else (k', d') :: upd k d r
def intOfKind (q : IntKind) : Value → Bool
  | .int q' _ => q' == q
  | _ => false
def keyT (P : Program) (k : Nat) : Value → Bool
  | .int q _ => match P.underlying k with
    | some (.int q') => q == q'
    | _ => false
  | .string _ => match P.underlying k with
    | some .string => true
    | _ => false
  | .agg cs => match P.underlying k with
    | some (.array n e) => match P.underlying e with
      | some (.int q) => cs.size == n && sizeT P e == 1 && cs.toList.all (intOfKind q)
      | _ => false
    | _ => false
  | _ => false
def keysT (P : Program) (k : Nat) (es : List (Value × D)) : Bool := es.all fun x => keyT P k x.1
def lookupD (E : Env) (F : Fr) (t : Nat) (x k : D) (ok : Bool) : Option D := match mapT E.P t, x, keyOf k with
  | some (kt, e), alias s ps, some kv => match getAt F s ps, zeroT E.P e with
    | some (map es), some z => if keyT E.P kt kv && keysT E.P kt es then match look kv es with
      | some d => some (if ok then tup [d, lit (.bool true)] else d)
      | none => if z.excl then none else some (if ok then tup [z, lit (.bool false)] else z)
      else none
    | _, _ => none
  | _, _, _ => none
def mapUpdateC (E : Env) (F : Fr) (t : Nat) (m k v : Operand) : Option Fr := match mapT E.P t, opd E F m, opd E F k, opd E F v with
  | some (kt, _), some (alias s ps), some kd, some d => match getAt F s ps, keyOf kd, snapD F d with
    | some (map es), some kv, some d' => if d'.flat && keyT E.P kt kv && keysT E.P kt es then setAt F s ps (map (upd kv d' es)) else none
    | _, _, _ => none
  | _, _, _, _ => none
def builtinC (E : Env) (F : Fr) (o : Oper) (b : Builtin) (xs : List Operand) (ts : List Nat) : Option Fr := match b, xs, ts with
  | .len, [x], t :: _ => match opd E F x with
    | some d => (lenD E F t d).map (fin F o.dst)
    | none => none
  | .append, [x, y], [t, u] => if rowT E.P u then appendC E F t o.dst x y else none
  | .max, [x, y], _ => match opd E F x, opd E F y with
    | some a, some b => (intOf2 (fun a b => if b > a then b else a) [a, b]).map (fin F o.dst)
    | _, _ => none
  | .min, [x, y], _ => match opd E F x, opd E F y with
    | some a, some b => (intOf2 (fun a b => if b < a then b else a) [a, b]).map (fin F o.dst)
    | _, _ => none
  | .clear, [x], t :: _ => match opd E F x, sliceT E.P t with
    | some (sub s ps off len), some e => match getAt F s ps, zeroT E.P e with
      | some (own es), some z =>
        if off + len ≤ es.length ∧ z.cells.length = sizeT E.P e ∧ 0 < sizeT E.P e ∧ (es.all fun c => c.length == sizeT E.P e) = true then
          (setAt F s ps (own (es.take off ++ List.replicate len z.cells ++ es.drop (off + len)))).map fun F' => fin (killB F' s ps) o.dst (tup [])
        else none
      | _, _ => none
    | _, _ => none
  | _, _, _ => none
def moveC (E : Env) (F : Fr) (dst : Option Nat) (x : Operand) : Option Fr := match x with
  | .tmp t => match get F t with
    | tup ds => some (fin (kill (put0 F t D.undef) t []) dst (tup ds))
    | _ => (opd E F x).map (fin F dst)
  | _ => (opd E F x).map (fin F dst)
def coldD (b : Bool) (d : D) : Option D := if b then match d with
    | tup ds => (freezeCs ds).map tup
    | d => d.freeze
  else some d
def capOK : D → Bool
  | lit _ | sl _ | ref _ | alias .. | sub .. | place .. => true
  | fn _ cs => !cs.any bad1
  | _ => false
def capsD (E : Env) (F : Fr) : List Operand → Option (List D)
  | [] => some []
  | x :: xs => match opd E F x, capsD E F xs with
    | some d, some ds => if capOK d then some (d :: ds) else none
    | _, _ => none
def bldT (E : Env) (t : Nat) : Option Nat := match E.bld t, (E.P.info? t).bind (·.zero) with
  | some e, some (.agg cs) => match cs.toList with
    | [.pointer none, .slice none 0 0] => some e
    | _ => none
  | _, _ => none
def opC (E : Env) (f : Nat) (V : List Nat) (call : Nat → List D → Option (D × List D)) (F : Fr) (o : Oper) : Option Fr := match o.op with
  | .move x => moveC E F o.dst x
  | .assign x => assignC E f V F o.dst x
  | .pick c a b => match opd E F c with
    | some (lit (.bool t)) => (opd E F (if t then a else b)).map (fin F o.dst)
    | _ => none
  | .alloc t => match bldT E t with
    | some e => some (fin F o.dst (bld t e []))
    | none => (zeroT E.P t).map fun z => fin F o.dst (box z.cells)
  | .box t x => (takeOp E F x).bind fun r => if r.1.cells.length = sizeT E.P t then some (fin r.2 o.dst (box r.1.cells)) else none
  | .build t ps => match zeroT E.P t, takeParts E F ps.toList with
    | some z, some (ds, F1) => match E.P.underlying t with
      | some (.array _ e) => if (E.P.info? e).isSome then (fillD (fun i => some (i * sizeT E.P e, sizeT E.P e)) z.cells ds).map fun cs => fin F1 o.dst (agg cs) else none
      | some (.struct fs) => if fs.toList.all fun f => (E.P.info? f.type).isSome then (fillD (fun i => (fs[i]?).map fun fd => (fd.offset, sizeT E.P fd.type)) z.cells ds).map fun cs => fin F1 o.dst (agg cs) else none
      | _ => none
    | _, _ => none
  | .buildSlice t n ps => match sliceT E.P t with
    | none => none
    | some e => match zeroT E.P e, takeParts E F ps.toList with
      | some z, some (ds, F1) =>
        if n * sizeT E.P e ≤ 16777216 ∧ z.cells.length = sizeT E.P e ∧ 0 < sizeT E.P e then
          (setElems (sizeT E.P e) (List.replicate n z.cells) ds).map fun es => fin F1 o.dst (own es)
        else none
      | _, _ => none
  | .load t x => match opd E F x with
    | some d => (loadD E F t d).map (fin F o.dst)
    | none => none
  | .store t x y => if (E.P.info? t).isSome then match takeOp E F y with
    | some (d, F1) => match opd E F1 x with
      | some p => (storeD E F1 t p d).map fun F2 => fin F2 o.dst (tup [])
      | none => none
    | none => none
    else none
  | .nilCheck x => match opd E F x with
    | some (alias s ps) => match getAt F s ps with
      | some (box _) => some (fin F o.dst (alias s ps))
      | some (ref _) => some (fin F o.dst (alias s ps))
      | _ => none
    | some (place s ps i c) => some (fin F o.dst (place s ps i c))
    | some (ref cs) => some (fin F o.dst (ref cs))
    | _ => none
  | .binOp op t x y _ => match opd E F x, opd E F y with
    | some a, some b => (binD E op t a b).map (fin F o.dst)
    | _, _ => none
  | .unOp op _ x => match opd E F x with
    | some (lit v) => (unV op v).map fun u => fin F o.dst (lit u)
    | _ => none
  | .convert s t x => match opd E F x with
    | some d => (convertD E F s t d).map (fin F o.dst)
    | none => none
  | .makeFunc (.func g) first caps => if first.isEmpty then (capsD E F caps.toList).map fun cs => fin F o.dst (fn g cs) else none
  | .makeMap _ none => some (fin F o.dst (map []))
  | .makeSlice t l c => match opd E F l, opd E F c, sliceT E.P t with
    | some dl, some dc, some e => match asNat dl, asNat dc, zeroT E.P e with
      | some n, some m, some z =>
        if n = m ∧ m * bytesT E.P e ≤ 281474976710656 ∧ m ≤ 9223372036854775807 ∧ z.cells.length = sizeT E.P e ∧ 0 < sizeT E.P e then some (fin F o.dst (own (List.replicate n z.cells))) else none
      | _, _, _ => none
    | _, _, _ => none
  | .slice t x lo hi none => match opd E F x, optNat E F lo, optNat E F hi with
    | some d, some l, some h => (sliceD E F t d l h).map (fin F o.dst)
    | _, _, _ => none
  | .fieldAddr t x j => match fieldT E.P t j, (opd E F x).bind (ptrOf F) with
    | some fd, some (.imm cs) => if 0 < sizeT E.P fd.type then some (fin F o.dst (ref (cs.drop fd.offset))) else none
    | some fd, some (.loc s ps i c) => if 0 < sizeT E.P fd.type then some (fin F o.dst (place s ps i (c + fd.offset))) else none
    | _, _ => none
  | .field t x j => match fieldT E.P t j, opd E F x with
    | some fd, some (agg cs) => (partD E fd.type cs fd.offset).map (fin F o.dst)
    | _, _ => none
  | .indexAddr t x ix => match opd E F x, opd E F ix with
    | some d, some i => (indexAddrD E F t d i).map (fin F o.dst)
    | _, _ => none
  | .index t x ix => match opd E F x, (opd E F ix).bind asNat with
    | some (lit (.string s)), some i => match E.P.underlying t with
      | some .string => (s[i]?).map fun b => fin F o.dst (lit (.int .u8 b.toNat))
      | _ => none
    | some (agg cs), some i => match arrayT E.P t with
      | some (n, e) => if i < n then (partD E e cs (i * sizeT E.P e)).map (fin F o.dst) else none
      | none => none
    | _, _ => none
  | .lookup t x k ok => match opd E F x, opd E F k with
    | some d, some kd => (lookupD E F t d kd ok).map (fin F o.dst)
    | _, _ => none
  | .mapUpdate t m k v => (mapUpdateC E F t m k v).map fun F' => fin F' o.dst (tup [])
  | .insert t m k v => (mapUpdateC E F t m k v).map fun F' => fin F' o.dst (tup [])
  | .extract (.tmp t) i => match get F t with
    | tup ds => (ds[i]?).map fun d => fin F o.dst (view t [(0, i)] d)
    | _ => none
  | .call c => match c.callee with
    | .builtin b => builtinC E F o b c.args.toList c.argTypes.toList
    | .value x => match opd E F x with
      | some (fn g caps) => (callC E call F g x (argsOf c.args.toList caps.length)).bind fun r => (coldD (E.eager f (o.dst.getD 0)) r.1).map (fin r.2 o.dst)
      | _ => none
    | .invoke .. => none
  | _ => none
def wantedD (ops : Array Oper) (F : Fr) (o : Oper) : Option Bool := match o.guard with
  | none => some true
  | some (j, b) => match (ops[j]?).bind (·.dst) with
    | some t => match get F t with
      | lit (.bool b') => some (b' == b)
      | tup _ => some false
      | lit _ => some false
      | _ => none
    | none => some false
def opsC (E : Env) (f : Nat) (V : List Nat) (call : Nat → List D → Option (D × List D)) (ops : Array Oper) : List Nat → Fr → Option Fr
  | [], F => some F
  | i :: r, F => match ops[i]? with
    | none => opsC E f V call ops r F
    | some o => match wantedD ops F o with
      | some true => match opC E f V call F o with
        | some F' => opsC E f V call ops r F'
        | none => none
      | some false => opsC E f V call ops r (fin F o.dst (tup []))
      | none => none
def outside (V : List Nat) (_ : Bool) (s : Nat) (_ : Path) : Bool := !V.contains s
def norm (V : List Nat) (F : Fr) : Fr := V.map fun s => (s, D.kill2 (outside V) (get F s))
def iter : Nat → (Fr → Option (Ex × Fr)) → Fr → Option (Ex × Fr)
  | 0, _, _ => none
  | n + 1, b, F => match b F with
    | some (.normal, F') => iter n b F'
    | r => r
end Go.Own

namespace Go.Own
open D
def pure1 : D → Bool
  | lit _ | sl _ | ref _ => true
  | fn _ cs => !cs.any bad1
  | _ => false
def givenC (E : Env) (F : Fr) : Operand → Option D
  | .tmp t => match get F t with
    | lit v => some (lit v)
    | sl es => some (sl es)
    | ref cs => some (ref cs)
    | fn f cs => if cs.any bad1 then none else some (fn f cs)
    | agg cs => if cs.all pure1 then some (agg cs) else none
    | alias s ps => match getAt F s ps with
      | some (sl es) => some (sl es)
      | some (ref cs) => some (ref cs)
      | _ => none
    | _ => none
  | .const v => if constOK v then some (constD v) else none
  | .func f => some (fn f [])
  | .global _ => none
def givenParts (E : Env) (F : Fr) : List (Nat × Operand) → Option (List (Nat × D))
  | [] => some []
  | (i, x) :: r => match givenC E F x, givenParts E F r with
    | some d, some ds => some ((i, d) :: ds)
    | _, _ => none
def imm1 (F : Fr) : D → Bool
  | alias s ps => match getAt F s ps with
    | some (sl _) => true
    | some (ref _) => true
    | _ => false
  | sub s ps _ _ => match getAt F s ps with
    | some (sl _) => true
    | some (ref _) => true
    | _ => false
  | place .. => false
  | _ => true
def immD (F : Fr) : D → Bool
  | agg cs => cs.all (imm1 F)
  | fn _ cs => cs.all (imm1 F)
  | d => imm1 F d
def snapOnly (E : Env) (f n : Nat) : Bool := (List.range n).all fun i => E.mode f i == .snap
def valC (E : Env) (f : Nat) (call : Nat → List D → Option (D × List D)) (F : Fr) (o : Oper) : Option D := match o.op with
  | .move x => match x with
    | .tmp t => match get F t with
      | tup _ => none
      | _ => opd E F x
    | _ => opd E F x
  | .assign x => match x with
    | .tmp t => match get F t with
      | lit v => some (lit v)
      | sl es => some (sl es)
      | _ => none
    | .const v => if constOK v then some (constD v) else none
    | _ => none
  | .pick c a b => match opd E F c with
    | some (lit (.bool t)) => opd E F (if t then a else b)
    | _ => none
  | .alloc t => match bldT E t with
    | some e => some (bld t e [])
    | none => (zeroT E.P t).map fun z => box z.cells
  | .box t x => match givenC E F x with
    | some d => if d.cells.length = sizeT E.P t then some (box d.cells) else none
    | none => none
  | .build t ps => match zeroT E.P t, givenParts E F ps.toList with
    | some z, some ds => match E.P.underlying t with
      | some (.array _ e) => if (E.P.info? e).isSome then (fillD (fun i => some (i * sizeT E.P e, sizeT E.P e)) z.cells ds).map agg else none
      | some (.struct fs) => if fs.toList.all fun f => (E.P.info? f.type).isSome then (fillD (fun i => (fs[i]?).map fun fd => (fd.offset, sizeT E.P fd.type)) z.cells ds).map agg else none
      | _ => none
    | _, _ => none
  | .buildSlice t n ps => match sliceT E.P t with
    | none => none
    | some e => match zeroT E.P e, givenParts E F ps.toList with
      | some z, some ds =>
        if n * sizeT E.P e ≤ 16777216 ∧ z.cells.length = sizeT E.P e ∧ 0 < sizeT E.P e then
          (setElems (sizeT E.P e) (List.replicate n z.cells) ds).map own
        else none
      | _, _ => none
  | .load t x => match opd E F x with
    | some d => loadD E F t d
    | none => none
  | .nilCheck x => match opd E F x with
    | some (alias s ps) => match getAt F s ps with
      | some (box _) => some (alias s ps)
      | some (ref _) => some (alias s ps)
      | _ => none
    | some (place s ps i c) => some (place s ps i c)
    | some (ref cs) => some (ref cs)
    | _ => none
  | .binOp op t x y _ => match opd E F x, opd E F y with
    | some a, some b => binD E op t a b
    | _, _ => none
  | .unOp op _ x => match opd E F x with
    | some (lit v) => (unV op v).map lit
    | _ => none
  | .convert s t x => match opd E F x with
    | some d => convertD E F s t d
    | none => none
  | .makeFunc (.func g) first caps => if first.isEmpty then (capsD E F caps.toList).map (fn g) else none
  | .makeMap _ none => some (map [])
  | .makeSlice t l c => match opd E F l, opd E F c, sliceT E.P t with
    | some dl, some dc, some e => match asNat dl, asNat dc, zeroT E.P e with
      | some n, some m, some z =>
        if n = m ∧ m * bytesT E.P e ≤ 281474976710656 ∧ m ≤ 9223372036854775807 ∧ z.cells.length = sizeT E.P e ∧ 0 < sizeT E.P e then some (own (List.replicate n z.cells)) else none
      | _, _, _ => none
    | _, _, _ => none
  | .slice t x lo hi none => match opd E F x, optNat E F lo, optNat E F hi with
    | some d, some l, some h => sliceD E F t d l h
    | _, _, _ => none
  | .fieldAddr t x j => match fieldT E.P t j, (opd E F x).bind (ptrOf F) with
    | some fd, some (.imm cs) => if 0 < sizeT E.P fd.type then some (ref (cs.drop fd.offset)) else none
    | some fd, some (.loc s ps i c) => if 0 < sizeT E.P fd.type then some (place s ps i (c + fd.offset)) else none
    | _, _ => none
  | .field t x j => match fieldT E.P t j, opd E F x with
    | some fd, some (agg cs) => partD E fd.type cs fd.offset
    | _, _ => none
  | .indexAddr t x ix => match opd E F x, opd E F ix with
    | some d, some i => indexAddrD E F t d i
    | _, _ => none
  | .index t x ix => match opd E F x, (opd E F ix).bind asNat with
    | some (lit (.string s)), some i => match E.P.underlying t with
      | some .string => (s[i]?).map fun b => lit (.int .u8 b.toNat)
      | _ => none
    | some (agg cs), some i => match arrayT E.P t with
      | some (n, e) => if i < n then partD E e cs (i * sizeT E.P e) else none
      | none => none
    | _, _ => none
  | .lookup t x k ok => match opd E F x, opd E F k with
    | some d, some kd => lookupD E F t d kd ok
    | _, _ => none
  | .extract (.tmp t) i => match get F t with
    | tup ds => (ds[i]?).map fun d => view t [(0, i)] d
    | _ => none
  | .call c => match c.callee with
    | .builtin .len => match c.args.toList, c.argTypes.toList with
      | [x], t :: _ => match opd E F x with
        | some d => lenD E F t d
        | none => none
      | _, _ => none
    | .builtin .max => match c.args.toList with
      | [x, y] => match opd E F x, opd E F y with
        | some a, some b => intOf2 (fun a b => if b > a then b else a) [a, b]
        | _, _ => none
      | _ => none
    | .builtin .min => match c.args.toList with
      | [x, y] => match opd E F x, opd E F y with
        | some a, some b => intOf2 (fun a b => if b < a then b else a) [a, b]
        | _, _ => none
      | _ => none
    | .value x => match opd E F x with
      | some (fn g caps) =>
        if snapOnly E g (argsOf c.args.toList caps.length).length then
          match passRest E g F F x none 0 (argsOf c.args.toList caps.length) ((argsOf c.args.toList caps.length).map fun _ => none) with
          | some ds => match call g ds with
            | some (r, []) => if r.flat || (snapSrcs E g F x 0 (argsOf c.args.toList caps.length)).all (immD F) then coldD (E.eager f (o.dst.getD 0)) r else none
            | _ => none
          | none => none
        else none
      | _ => none
    | _ => none
  | _ => none
def reach (ops : Array Oper) : Nat → Nat → Nat → Bool
  | 0, _, _ => false
  | n + 1, j, i => match ops[i]? with
    | none => false
    | some o => o.after.toList.any fun e => Region.binds .any e && decide (e.on < i) && (e.on == j || (decide (j < e.on) && reach ops n j e.on))
def tmpsOf (o : Oper) : List Nat := o.op.operands.toList.filterMap fun | .tmp t => some t | _ => none
def guardTmp (ops : Array Oper) (o : Oper) : List Nat := match o.guard with
  | none => []
  | some (j, _) => ((ops[j]?).bind (·.dst)).toList
def hiddenOf (ops : Array Oper) (blk : List Nat) (i : Nat) : List Nat := (blk.filter fun j => !reach ops ops.size j i).filterMap fun j => (ops[j]?).bind (·.dst)
def maskF (hid : List Nat) (F : Fr) : Fr := F.map fun x => if hid.contains x.1 then (x.1, D.undef) else x
def pureC (E : Env) (f : Nat) (call : Nat → List D → Option (D × List D)) (ops : Array Oper) (F : Fr) (o : Oper) : Option D := match wantedD ops F o with
  | some true => valC E f call F o
  | some false => some (tup [])
  | none => none
def isUndef : D → Bool
  | .undef => true
  | _ => false
def freeDst (F : Fr) (o : Oper) : Bool := match o.dst with
  | none => true
  | some t => isUndef (get F t) && F.any fun x => x.1 == t
def set0 (F : Fr) (dst : Option Nat) (d : D) : Fr := match dst with
  | none => F
  | some t => put0 F t d
def anchored (ops : Array Oper) (i : Nat) : Bool := (List.range ops.size).all fun j => if j < i then reach ops ops.size j i else if i < j then reach ops ops.size i j else true
def newDst (ops : Array Oper) (blk : List Nat) (o : Oper) : Bool := match o.dst with
  | none => true
  | some t => blk.all fun j => match (ops[j]?).bind (·.dst) with
    | some t' => t' != t
    | none => true
def seesAll (ops : Array Oper) (F : Fr) (o : Oper) : Bool := (tmpsOf o ++ guardTmp ops o).all fun t => !isUndef (get F t)
def drawC (E : Env) (f : Nat) (V : List Nat) (call : Nat → List D → Option (D × List D)) (ops : Array Oper) : List Nat → List Nat → Fr → Option Fr
  | [], _, F => some F
  | i :: r, blk, F => match ops[i]? with
    | none => none
    | some o => if anchored ops i then match wantedD ops F o with
        | some true => match opC E f V call F o with
          | some F' => drawC E f V call ops r [] F'
          | none => none
        | some false => drawC E f V call ops r [] (fin F o.dst (tup []))
        | none => none
      else match pureC E f call ops (maskF (hiddenOf ops blk i) F) o with
        | some d =>
          if seesAll ops (maskF (hiddenOf ops blk i) F) o && freeDst F o && newDst ops blk o then drawC E f V call ops r (i :: blk) (set0 F o.dst d)
          else none
        | none => none
def freshC (F : Fr) : List Oper → Fr
  | [] => F
  | o :: r => match o.op, o.dst with
    | .assign _, some t => bif isUndef (get F t) then freshC (put F t D.undef) r else freshC F r
    | .assign _, none => freshC F r
    | _, some t => freshC (put F t D.undef) r
    | _, none => freshC F r
def edgesBack (ops : Array Oper) : Bool := (List.range ops.size).all fun i => match ops[i]? with
  | some o => o.after.toList.all fun e => !Region.binds .any e || decide (e.on < i)
  | none => true
def regC (E : Env) (f : Nat) (V : List Nat) (call : Nat → List D → Option (D × List D)) (ops : Array Oper) (draw : Bool) (F : Fr) : Option Fr :=
  if draw then
    if edgesBack ops && ops.toList.all (fun o => match o.op with | .select .. => false | _ => true) then (drawC E f V call ops (List.range ops.size) [] (freshC F ops.toList)).map (norm V) else none
  else (opsC E f V call ops (List.range ops.size) F).map (norm V)
def trim (E : Env) (f : Nat) (V : List Nat) (kind key : Nat) (F : Fr) : Fr := match E.keep f kind key with
  | none => F
  | some K => norm (V.filter fun s => Nat.ble 1000000 s || K.contains s) F
def askKey : Operand → Nat
  | .tmp t => t
  | _ => 0
def execC (E : Env) (f : Nat) (V : List Nat) (call : Nat → List D → Option (D × List D)) (n : Nat) : Code → Fr → Option (Ex × Fr)
  | .skip, F => some (.normal, F)
  | .region id ops draw, F => (regC E f V call ops draw F).map fun F' => (.normal, trim E f V 0 id F')
  | .seq a b, F => match execC E f V call n a F with
    | some (.normal, F') => execC E f V call n b F'
    | r => r
  | .cond x a b, F => match opd E F x with
    | some (lit (.bool t)) => if t then execC E f V call n a (trim E f V 1 (askKey x) F) else execC E f V call n b (trim E f V 2 (askKey x) F)
    | _ => none
  | .block id b, F => match execC E f V call n b F with
    | some (.exit i, F') => if i = id then some (.normal, F') else some (.exit i, F')
    | r => r
  | .loop b, F => iter n (execC E f V call n b) F
  | .exit id, F => some (.exit id, trim E f V 3 id F)
  | .ret, F => some (.ret, F)
  | _, _ => none
def begins (E : Env) (f : Nat) : Nat → List D → Fr
  | _, [] => []
  | i, d :: ds => if E.mode f i = .inout then (i, alias (lent i) []) :: (lent i, d) :: begins E f (i + 1) ds else (i, d) :: begins E f (i + 1) ds
def lents (E : Env) (f : Nat) : Nat → Nat → List Nat
  | _, 0 => []
  | i, n + 1 => if E.mode f i = .inout then lent i :: lents E f (i + 1) n else lents E f (i + 1) n
def resC (E : Env) (F : Fr) : ResultVar → Option (D × Fr)
  | .tmp t => takeOp E F (.tmp t)
  | .cell a t => match get F a with
    | box cs => if cs.length = sizeT E.P t then match ofCells (isAggT E.P t) cs with
      | some d => if isUndef d || (E.P.underlying t).isNone then none else some (d, kill (put0 F a D.undef) a [])
      | none => none
      else none
    | _ => none
def resultsC (E : Env) (F : Fr) : List ResultVar → Option (List D × Fr)
  | [] => some ([], F)
  | r :: rs => match resC E F r with
    | some (d, F1) => match resultsC E F1 rs with
      | some (ds, F2) => some (d :: ds, F2)
      | none => none
    | none => none
def oneOf : List D → D
  | [d] => d
  | ds => tup ds
def leaveC (E : Env) (f : Nat) (fd : Func) (n : Nat) (F : Fr) : Option (D × List D) := match resultsC E F fd.results.toList with
  | some (ds, F') => if ((lents E f 0 n).map (get F')).all node1 then some (oneOf ds, (lents E f 0 n).map (get F')) else none
  | none => none
def callN (E : Env) : Nat → Nat → List D → Option (D × List D)
  | 0, _, _ => none
  | n + 1, f, args => match E.prim f with
    | some p => p args
    | none => match E.P.funcs[f]? with
      | none => none
      | some fd => match fd.body with
        | none => none
        | some c => if args.length ≤ fd.ntmps ∧ fd.ntmps < 1000000 then
            let V := E.vars f ++ lents E f 0 args.length
            match execC E f V (callN E n) n c (norm V (begins E f 0 args)) with
            | some (.normal, F) => leaveC E f fd args.length F
            | some (.ret, F) => leaveC E f fd args.length F
            | _ => none
          else none
end Go.Own

namespace Go.Own
open D
abbrev Caller := Nat → List D → Option (D × List D)
def CallLe (c c' : Caller) : Prop := ∀ f ds x, c f ds = some x → c' f ds = some x
theorem callC_le {E : Env} {c c' : Caller} (h : CallLe c c') {F : Fr} {f : Nat} {x : Operand} {bs : List Arg} {r : D × Fr} (hc : callC E c F f x bs = some r) : callC E c' F f x bs = some r := by
  unfold callC at hc ⊢
  split at hc
  · cases hc
  · split at hc
    · cases hc
    · split at hc
      · cases hc
      · split at hc
        · cases hc
        · rename_i h4 _ _ h3 _ h2 _ _ _ h1
          split at hc
          · cases hc
          · rename_i r outs hcl
            simp only [h _ _ _ hcl]
            exact hc
theorem opC_le {E : Env} {c c' : Caller} (h : CallLe c c') {f : Nat} {V : List Nat} {F F' : Fr} {o : Oper} (hc : opC E f V c F o = some F') : opC E f V c' F o = some F' := by
  unfold opC at hc ⊢
  cases hq : o.op with
  | call cl =>
    rw [hq] at hc
    simp only at hc ⊢
    cases hcl : cl.callee with
    | value x =>
      rw [hcl] at hc
      simp only at hc ⊢
      cases ho : opd E F x with
      | none => simp [ho] at hc
      | some d =>
        cases d with
        | fn g caps =>
          simp only [ho, Option.bind_eq_some_iff] at hc ⊢
          obtain ⟨r, hr, hc⟩ := hc
          exact ⟨r, callC_le h hr, hc⟩
        | _ => simp [ho] at hc
    | builtin b => rw [hcl] at hc; cases b <;> exact hc
    | invoke a b => rw [hcl] at hc; exact hc
  | makeFunc fn _ _ => rw [hq] at hc; cases fn <;> exact hc
  | makeMap _ r => rw [hq] at hc; cases r <;> exact hc
  | slice _ _ _ _ mx => rw [hq] at hc; cases mx <;> exact hc
  | extract x _ => rw [hq] at hc; cases x <;> exact hc
  | move x => rw [hq] at hc; cases x <;> exact hc
  | _ => rw [hq] at hc; exact hc
theorem valC_le {E : Env} {c c' : Caller} (h : CallLe c c') {f : Nat} {F : Fr} {o : Oper} {d : D} (hc : valC E f c F o = some d) : valC E f c' F o = some d := by
  unfold valC at hc ⊢
  cases hq : o.op with
  | call cl =>
    rw [hq] at hc
    simp only at hc ⊢
    cases hcl : cl.callee with
    | value x =>
      rw [hcl] at hc
      simp only at hc ⊢
      cases ho : opd E F x with
      | none => simp [ho] at hc
      | some d =>
        cases d with
        | fn g caps =>
          simp only [ho] at hc ⊢
          split at hc
          · rename_i hs
            rw [if_pos hs]
            split at hc
            · rename_i ds hp
              cases hcd : c g ds with
              | none => simp [hcd] at hc
              | some x =>
                rw [hcd] at hc
                simp only [h _ _ _ hcd]
                exact hc
            · cases hc
          · cases hc
        | _ => simp [ho] at hc
    | builtin b => rw [hcl] at hc; cases b <;> exact hc
    | invoke a b => rw [hcl] at hc; exact hc
  | makeFunc fn _ _ => rw [hq] at hc; cases fn <;> exact hc
  | makeMap _ r => rw [hq] at hc; cases r <;> exact hc
  | slice _ _ _ _ mx => rw [hq] at hc; cases mx <;> exact hc
  | extract x _ => rw [hq] at hc; cases x <;> exact hc
  | move x => rw [hq] at hc; cases x <;> exact hc
  | _ => rw [hq] at hc; exact hc
theorem pureC_le {E : Env} {c c' : Caller} (h : CallLe c c') {f : Nat} {ops : Array Oper} {F : Fr} {o : Oper} {d : D} (hc : pureC E f c ops F o = some d) : pureC E f c' ops F o = some d := by
  unfold pureC at hc ⊢
  split at hc
  · exact valC_le h hc
  · exact hc
  · cases hc
theorem opsC_le {E : Env} {c c' : Caller} (h : CallLe c c') {f : Nat} {V : List Nat} {ops : Array Oper} : ∀ {l : List Nat} {F F' : Fr}, opsC E f V c ops l F = some F' → opsC E f V c' ops l F = some F'
  | [], _, _, hc => hc
  | i :: l, F, F', hc => by
    simp only [opsC] at hc ⊢
    split at hc
    · exact opsC_le h hc
    · split at hc
      · rename_i o _ _ _
        split at hc
        · rename_i F1 h1
          simp only [opC_le h h1]
          exact opsC_le h hc
        · cases hc
      · exact opsC_le h hc
      · cases hc
theorem drawC_le {E : Env} {c c' : Caller} (h : CallLe c c') {f : Nat} {V : List Nat} {ops : Array Oper} : ∀ {l : List Nat} {blk : List Nat} {F F' : Fr}, drawC E f V c ops l blk F = some F' → drawC E f V c' ops l blk F = some F'
  | [], _, _, _, hc => hc
  | i :: l, blk, F, F', hc => by
    simp only [drawC] at hc ⊢
    split at hc
    · cases hc
    · split at hc
      · rename_i ha
        rw [if_pos ha]
        split at hc
        · split at hc
          · rename_i F1 h1
            simp only [opC_le h h1]
            exact drawC_le h hc
          · cases hc
        · exact drawC_le h hc
        · cases hc
      · rename_i ha
        rw [if_neg ha]
        split at hc
        · rename_i d hp
          simp only [pureC_le h hp]
          split at hc
          · rename_i hs
            rw [if_pos hs]
            exact drawC_le h hc
          · cases hc
        · cases hc
theorem regC_le {E : Env} {c c' : Caller} (h : CallLe c c') {f : Nat} {V : List Nat} {ops : Array Oper} {draw : Bool} {F F' : Fr} (hc : regC E f V c ops draw F = some F') : regC E f V c' ops draw F = some F' := by
  unfold regC at hc ⊢
  split at hc
  · rename_i hd
    rw [if_pos hd]
    split at hc
    · rename_i hb
      rw [if_pos hb]
      simp only [Option.map_eq_some_iff] at hc ⊢
      obtain ⟨F1, h1, h2⟩ := hc
      exact ⟨F1, drawC_le h h1, h2⟩
    · cases hc
  · rename_i hd
    rw [if_neg hd]
    simp only [Option.map_eq_some_iff] at hc ⊢
    obtain ⟨F1, h1, h2⟩ := hc
    exact ⟨F1, opsC_le h h1, h2⟩
theorem iter_le {b b' : Fr → Option (Ex × Fr)} (h : ∀ F x, b F = some x → b' F = some x) : ∀ {n m : Nat} {F : Fr} {x : Ex × Fr}, n ≤ m → iter n b F = some x → iter m b' F = some x
  | 0, _, _, _, _, hc => by simp [iter] at hc
  | n + 1, 0, _, _, hm, _ => by omega
  | n + 1, m + 1, F, x, hm, hc => by
    simp only [iter] at hc ⊢
    cases hb : b F with
    | none => simp [hb] at hc
    | some q =>
      rw [hb] at hc
      rw [h _ _ hb]
      obtain ⟨e, F1⟩ := q
      cases e with
      | normal => exact iter_le h (by omega) hc
      | exit id => exact hc
      | ret => exact hc
theorem execC_le {E : Env} {c c' : Caller} (h : CallLe c c') {f : Nat} {V : List Nat} {n m : Nat} (hn : n ≤ m) : ∀ {cd : Code} {F : Fr} {x : Ex × Fr}, execC E f V c n cd F = some x → execC E f V c' m cd F = some x
  | .skip, _, _, hc => hc
  | .exit _, _, _, hc => hc
  | .ret, _, _, hc => hc
  | .region _ ops draw, F, x, hc => by
    simp only [execC, Option.map_eq_some_iff] at hc ⊢
    obtain ⟨F1, h1, h2⟩ := hc
    exact ⟨F1, regC_le h h1, h2⟩
  | .seq a b, F, x, hc => by
    simp only [execC] at hc ⊢
    cases hr : execC E f V c n a F with
    | none => simp [hr] at hc
    | some q =>
      rw [hr] at hc
      rw [execC_le h hn hr]
      obtain ⟨e, F1⟩ := q
      cases e with
      | normal => exact execC_le h hn hc
      | exit id => exact hc
      | ret => exact hc
  | .cond y a b, F, x, hc => by
    simp only [execC] at hc ⊢
    split at hc
    · split at hc
      · rename_i ht; rw [if_pos ht]; exact execC_le h hn hc
      · rename_i ht; rw [if_neg ht]; exact execC_le h hn hc
    · cases hc
  | .block id b, F, x, hc => by
    simp only [execC] at hc ⊢
    cases hr : execC E f V c n b F with
    | none => simp [hr] at hc
    | some q =>
      rw [hr] at hc
      rw [execC_le h hn hr]
      exact hc
  | .loop b, F, x, hc => by
    simp only [execC] at hc ⊢
    exact iter_le (fun F y hy => execC_le h hn hy) hn hc
  | .rangeFunc .., _, _, hc => by simp [execC] at hc
  | .scope _, _, _, hc => by simp [execC] at hc
  | .label _, _, _, hc => by simp [execC] at hc
  | .goto _, _, _, hc => by simp [execC] at hc
  | .refuse _, _, _, hc => by simp [execC] at hc
theorem callN_le {E : Env} : ∀ {n m : Nat}, n ≤ m → CallLe (callN E n) (callN E m)
  | 0, _, _ => fun f ds x hc => by simp [callN] at hc
  | n + 1, 0, hm => by omega
  | n + 1, m + 1, hm => fun f ds x hc => by
    have ih := callN_le (E := E) (n := n) (m := m) (by omega)
    simp only [callN] at hc ⊢
    split at hc
    · exact hc
    · split at hc
      · cases hc
      · split at hc
        · cases hc
        · split at hc
          · rename_i hl
            rw [if_pos hl]
            cases hr : execC E f (E.vars f ++ lents E f 0 ds.length) (callN E n) n _ (norm (E.vars f ++ lents E f 0 ds.length) (begins E f 0 ds)) with
            | none => rw [hr] at hc; cases hc
            | some q =>
              rw [hr] at hc
              rw [execC_le ih (by omega) hr]
              exact hc
          · cases hc
def Ret (E : Env) (f : Nat) (ds : List D) (r : D) (outs : List D) : Prop := ∃ n, ∀ m, n ≤ m → callN E m f ds = some (r, outs)
theorem Ret.of {E : Env} {n f : Nat} {ds : List D} {r : D} {outs : List D} (h : callN E n f ds = some (r, outs)) : Ret E f ds r outs := ⟨n, fun _ hm => callN_le hm f ds _ h⟩
end Go.Own

namespace Go.Own
open D
section
variable {E : Env} {f : Nat} {V : List Nat} {call : Caller} {F F1 F2 : Fr} {o : Oper}
theorem opsC_cons {ops : Array Oper} {l : List Nat} {i : Nat} (hi : ops[i]? = some o) (hw : wantedD ops F o = some true) (h : opC E f V call F o = some F1) : opsC E f V call ops (i :: l) F = opsC E f V call ops l F1 := by
  simp only [opsC, hi, hw, h]
theorem opsC_app {ops : Array Oper} : ∀ {l m : List Nat} {F F1 : Fr}, opsC E f V call ops l F = some F1 → opsC E f V call ops (l ++ m) F = opsC E f V call ops m F1
  | [], m, F, F1, h => by simp only [opsC, Option.some.injEq] at h; subst h; rfl
  | i :: l, m, F, F1, h => by
    simp only [List.cons_append, opsC] at h ⊢
    split at h
    · exact opsC_app h
    · split at h
      · split at h
        · exact opsC_app h
        · cases h
      · exact opsC_app h
      · cases h
theorem reg_of {ops : Array Oper} {F' : Fr} (h : opsC E f V call ops (List.range ops.size) F = some F1) (hn : norm V F1 = F') : regC E f V call ops false F = some F' := by
  simp [regC, h, hn]
theorem reg_first {ops : Array Oper} {l : List Nat} {F' : Fr} (hr : List.range ops.size = 0 :: l) (hi : ops[0]? = some o) (hw : wantedD ops F o = some true) (h : opC E f V call F o = some F1) (k : (opsC E f V call ops l F1).map (norm V) = some F') : regC E f V call ops false F = some F' := by
  simp only [regC, Bool.false_eq_true, if_false, hr]
  rw [opsC_cons hi hw h]
  exact k
theorem index_sl {t e k i : Nat} {q : IntKind} {x ix : Operand} {es : List (List D)} {c : List D} (ho : o.op = .indexAddr t x ix) (hx : opd E F x = some (.sl es)) (hix : opd E F ix = some (.lit (.int q (i : Int)))) (ht : sliceT E.P t = some e) (hs : sizeT E.P e = k)
    (hc : es[i]? = some c) (hk : c.length = k) : opC E f V call F o = some (fin F o.dst (.ref c)) := by
  unfold opC
  have e0 : (0 : Int) ≤ (i : Int) := Int.natCast_nonneg i
  simp only [ho, hx, hix, indexAddrD, asNat, asInt, ht, hs, if_pos e0, Int.toNat_natCast, hc, hk, if_true, Option.map_some]
theorem index_own {t e k i s : Nat} {ps : Path} {q : IntKind} {x ix : Operand} {es : List (List D)} {c : List D} (ho : o.op = .indexAddr t x ix) (hx : opd E F x = some (.alias s ps)) (hg : getAt F s ps = some (.own es)) (hix : opd E F ix = some (.lit (.int q (i : Int)))) (ht : sliceT E.P t = some e) (hs : sizeT E.P e = k)
    (hc : es[i]? = some c) (hk : c.length = k) : opC E f V call F o = some (fin F o.dst (.place s ps i 0)) := by
  unfold opC
  have e0 : (0 : Int) ≤ (i : Int) := Int.natCast_nonneg i
  simp only [ho, hx, hix, indexAddrD, asNat, asInt, ht, hs, hg, if_pos e0, Int.toNat_natCast, hc, hk, if_true, Option.map_some]
theorem load_own {t i s k : Nat} {ps : Path} {x : Operand} {es : List (List D)} {ec : List D} {d : D} (ho : o.op = .load t x) (hx : opd E F x = some (.place s ps i 0)) (hg : getAt F s ps = some (.own es)) (hc : es[i]? = some ec) (hu : (E.P.underlying t).isNone = false) (hs : sizeT E.P t = k) (hk : ec.length = k)
    (hd : ofCells (isAggT E.P t) (viewCells s ps i 0 ec) = some d) : opC E f V call F o = some (fin F o.dst d) := by
  unfold opC
  have e1 : (ec.drop 0).take k = ec := by rw [List.drop_zero, ← hk, List.take_length]
  have e2 : 0 + k ≤ ec.length := by omega
  simp only [ho, hx, loadD, hu, ptrOf, hg, D.elem, hc, hs, if_pos e2, e1, hd]
  simp
theorem store_own {t i s k : Nat} {ps : Path} {x y : Operand} {es : List (List D)} {ec : List D} {d : D} (ho : o.op = .store t x y) (hy : takeOp E F y = some (d, F1)) (hx : opd E F1 x = some (.place s ps i 0)) (hg : getAt F1 s ps = some (.own es)) (hc : es[i]? = some ec) (hi : (E.P.info? t).isSome = true) (hs : sizeT E.P t = k) (hk : ec.length = k) (hl : d.cells.length = k)
    (hn : ec.any node1 = false) (hset : setAt F1 s ps (.own (es.set i d.cells)) = some F2) : opC E f V call F o = some (fin F2 o.dst (.tup [])) := by
  unfold opC
  have e1 : (ec.drop 0).take k = ec := by rw [List.drop_zero, ← hk, List.take_length]
  have e2 : d.cells.length = k ∧ 0 + k ≤ ec.length := ⟨hl, by omega⟩
  have e3 : ec.drop (0 + k) = [] := by rw [Nat.zero_add, ← hk, List.drop_length]
  simp only [ho, hi, if_true, hy, hx, storeD, ptrOf, hg, D.elem, hc, hs, if_pos e2, List.take_zero, List.nil_append, e3, List.append_nil, D.setElem, hset, e1, hn]
  simp
end
end Go.Own

namespace Go.Own
open D
abbrev Query := Nat × List D
def passQ (E : Env) (F : Fr) (f : Nat) (c : Operand) (args : List Arg) : Option (List D) :=
  match passMoves E f 0 F args with
  | none => none
  | some (ms, F1) => match lentFrom E f F1 c 0 args with
    | none => none
    | some l => match holeC F1 l with
      | none => none
      | some (ld, F2) => passRest E f F1 F2 c ld 0 args ms
def opQ (E : Env) (F : Fr) (o : Oper) : List Query := match o.op with
  | .call c => match c.callee with
    | .value x => match opd E F x with
      | some (fn g caps) => ((passQ E F g x (argsOf c.args.toList caps.length)).map fun ds => (g, ds)).toList
      | _ => []
    | _ => []
  | _ => []
def valQ (E : Env) (F : Fr) (o : Oper) : List Query := match o.op with
  | .call c => match c.callee with
    | .value x => match opd E F x with
      | some (fn g caps) => ((passRest E g F F x none 0 (argsOf c.args.toList caps.length) ((argsOf c.args.toList caps.length).map fun _ => none)).map fun ds => (g, ds)).toList
      | _ => []
    | _ => []
  | _ => []
def opsQ (E : Env) (f : Nat) (V : List Nat) (call : Caller) (ops : Array Oper) : List Nat → Fr → List Query
  | [], _ => []
  | i :: r, F => match ops[i]? with
    | none => opsQ E f V call ops r F
    | some o => match wantedD ops F o with
      | some true => opQ E F o ++ (match opC E f V call F o with
        | some F' => opsQ E f V call ops r F'
        | none => [])
      | some false => opsQ E f V call ops r (fin F o.dst (tup []))
      | none => []
def drawQ (E : Env) (f : Nat) (V : List Nat) (call : Caller) (ops : Array Oper) : List Nat → List Nat → Fr → List Query
  | [], _, _ => []
  | i :: r, blk, F => match ops[i]? with
    | none => []
    | some o => if anchored ops i then match wantedD ops F o with
        | some true => opQ E F o ++ (match opC E f V call F o with
          | some F' => drawQ E f V call ops r [] F'
          | none => [])
        | some false => drawQ E f V call ops r [] (fin F o.dst (tup []))
        | none => []
      else valQ E (maskF (hiddenOf ops blk i) F) o ++ (match pureC E f call ops (maskF (hiddenOf ops blk i) F) o with
        | some d => drawQ E f V call ops r (i :: blk) (set0 F o.dst d)
        | none => [])
def regQ (E : Env) (f : Nat) (V : List Nat) (call : Caller) (ops : Array Oper) (draw : Bool) (F : Fr) : List Query :=
  if draw then drawQ E f V call ops (List.range ops.size) [] (freshC F ops.toList) else opsQ E f V call ops (List.range ops.size) F
def Agree (c c' : Caller) (l : List Query) : Prop := ∀ q ∈ l, ∀ x, c q.1 q.2 = some x → c' q.1 q.2 = some x
theorem Agree.left {c c' : Caller} {l m : List Query} (h : Agree c c' (l ++ m)) : Agree c c' l := fun q hq => h q (List.mem_append_left _ hq)
theorem Agree.right {c c' : Caller} {l m : List Query} (h : Agree c c' (l ++ m)) : Agree c c' m := fun q hq => h q (List.mem_append_right _ hq)
theorem callC_q {E : Env} {c c' : Caller} {F : Fr} {f : Nat} {x : Operand} {bs : List Arg} {r : D × Fr} (h : ∀ ds, passQ E F f x bs = some ds → ∀ y, c f ds = some y → c' f ds = some y) (hc : callC E c F f x bs = some r) : callC E c' F f x bs = some r := by
  unfold callC at hc ⊢
  unfold passQ at h
  split at hc
  · cases hc
  · rename_i ms F1 h1
    simp only [h1] at h
    split at hc
    · cases hc
    · rename_i l h2
      simp only [h2] at h
      split at hc
      · cases hc
      · rename_i ld F2 h3
        simp only [h3] at h
        split at hc
        · cases hc
        · rename_i ds h4
          split at hc
          · cases hc
          · rename_i r outs hcl
            simp only [h ds h4 _ hcl]
            exact hc
theorem opC_q {E : Env} {c c' : Caller} {f : Nat} {V : List Nat} {F F' : Fr} {o : Oper} (h : Agree c c' (opQ E F o)) (hc : opC E f V c F o = some F') : opC E f V c' F o = some F' := by
  unfold opC at hc ⊢
  unfold opQ at h
  cases hq : o.op with
  | call cl =>
    rw [hq] at hc h
    simp only at hc h ⊢
    cases hcl : cl.callee with
    | value x =>
      rw [hcl] at hc h
      simp only at hc h ⊢
      cases ho : opd E F x with
      | none => simp [ho] at hc
      | some d =>
        cases d with
        | fn g caps =>
          simp only [ho, Option.bind_eq_some_iff] at hc h ⊢
          obtain ⟨r, hr, hc⟩ := hc
          refine ⟨r, callC_q (fun ds hds y hy => ?_) hr, hc⟩
          rw [hds] at h
          exact h (g, ds) (by simp) y hy
        | _ => simp [ho] at hc
    | builtin b => rw [hcl] at hc; cases b <;> exact hc
    | invoke a b => rw [hcl] at hc; exact hc
  | makeFunc fn _ _ => rw [hq] at hc; cases fn <;> exact hc
  | makeMap _ r => rw [hq] at hc; cases r <;> exact hc
  | slice _ _ _ _ mx => rw [hq] at hc; cases mx <;> exact hc
  | extract x _ => rw [hq] at hc; cases x <;> exact hc
  | move x => rw [hq] at hc; cases x <;> exact hc
  | _ => rw [hq] at hc; exact hc
theorem valC_q {E : Env} {c c' : Caller} {f : Nat} {F : Fr} {o : Oper} {d : D} (h : Agree c c' (valQ E F o)) (hc : valC E f c F o = some d) : valC E f c' F o = some d := by
  unfold valC at hc ⊢
  unfold valQ at h
  cases hq : o.op with
  | call cl =>
    rw [hq] at hc h
    simp only at hc h ⊢
    cases hcl : cl.callee with
    | value x =>
      rw [hcl] at hc h
      simp only at hc h ⊢
      cases ho : opd E F x with
      | none => simp [ho] at hc
      | some d =>
        cases d with
        | fn g caps =>
          simp only [ho] at hc h ⊢
          split at hc
          · rename_i hs
            rw [if_pos hs]
            cases hp : passRest E g F F x none 0 (argsOf cl.args.toList caps.length) ((argsOf cl.args.toList caps.length).map fun _ => none) with
            | none => rw [hp] at hc; cases hc
            | some ds =>
              rw [hp] at hc h
              cases hcd : c g ds with
              | none => simp [hcd] at hc
              | some x =>
                simp only [hcd] at hc
                simp only [h (g, ds) (by simp) x hcd]
                exact hc
          · cases hc
        | _ => simp [ho] at hc
    | builtin b => rw [hcl] at hc; cases b <;> exact hc
    | invoke a b => rw [hcl] at hc; exact hc
  | makeFunc fn _ _ => rw [hq] at hc; cases fn <;> exact hc
  | makeMap _ r => rw [hq] at hc; cases r <;> exact hc
  | slice _ _ _ _ mx => rw [hq] at hc; cases mx <;> exact hc
  | extract x _ => rw [hq] at hc; cases x <;> exact hc
  | move x => rw [hq] at hc; cases x <;> exact hc
  | _ => rw [hq] at hc; exact hc
theorem pureC_q {E : Env} {c c' : Caller} {f : Nat} {ops : Array Oper} {F : Fr} {o : Oper} {d : D} (h : Agree c c' (valQ E F o)) (hc : pureC E f c ops F o = some d) : pureC E f c' ops F o = some d := by
  unfold pureC at hc ⊢
  split at hc
  · exact valC_q h hc
  · exact hc
  · cases hc
theorem opsC_q {E : Env} {c c' : Caller} {f : Nat} {V : List Nat} {ops : Array Oper} : ∀ {l : List Nat} {F F' : Fr}, Agree c c' (opsQ E f V c ops l F) → opsC E f V c ops l F = some F' → opsC E f V c' ops l F = some F'
  | [], _, _, _, hc => hc
  | i :: l, F, F', h, hc => by
    simp only [opsC] at hc ⊢
    simp only [opsQ] at h
    cases ho : ops[i]? with
    | none => simp only [ho] at hc h ⊢; exact opsC_q h hc
    | some o =>
      simp only [ho] at hc h ⊢
      cases hw : wantedD ops F o with
      | none => simp [hw] at hc
      | some b =>
        cases b with
        | true =>
          simp only [hw] at hc h ⊢
          cases h1 : opC E f V c F o with
          | none => simp [h1] at hc
          | some F1 =>
            simp only [h1] at hc h
            simp only [opC_q h.left h1]
            exact opsC_q h.right hc
        | false => simp only [hw] at hc h ⊢; exact opsC_q h hc
theorem drawC_q {E : Env} {c c' : Caller} {f : Nat} {V : List Nat} {ops : Array Oper} : ∀ {l : List Nat} {blk : List Nat} {F F' : Fr}, Agree c c' (drawQ E f V c ops l blk F) → drawC E f V c ops l blk F = some F' → drawC E f V c' ops l blk F = some F'
  | [], _, _, _, _, hc => hc
  | i :: l, blk, F, F', h, hc => by
    simp only [drawC] at hc ⊢
    simp only [drawQ] at h
    cases ho : ops[i]? with
    | none => simp [ho] at hc
    | some o =>
      simp only [ho] at hc h ⊢
      by_cases ha : anchored ops i = true
      · simp only [if_pos ha] at hc h ⊢
        cases hw : wantedD ops F o with
        | none => simp [hw] at hc
        | some b =>
          cases b with
          | true =>
            simp only [hw] at hc h ⊢
            cases h1 : opC E f V c F o with
            | none => simp [h1] at hc
            | some F1 =>
              simp only [h1] at hc h
              simp only [opC_q h.left h1]
              exact drawC_q h.right hc
          | false => simp only [hw] at hc h ⊢; exact drawC_q h hc
      · simp only [if_neg ha] at hc h ⊢
        cases hp : pureC E f c ops (maskF (hiddenOf ops blk i) F) o with
        | none => simp [hp] at hc
        | some d =>
          simp only [hp] at hc h
          simp only [pureC_q h.left hp]
          split at hc
          · rename_i hs
            rw [if_pos hs]
            exact drawC_q h.right hc
          · cases hc
theorem regC_q {E : Env} {c c' : Caller} {f : Nat} {V : List Nat} {ops : Array Oper} {draw : Bool} {F F' : Fr} (h : Agree c c' (regQ E f V c ops draw F)) (hc : regC E f V c ops draw F = some F') : regC E f V c' ops draw F = some F' := by
  unfold regC at hc ⊢
  unfold regQ at h
  split at hc
  · rename_i hd
    rw [if_pos hd] at h ⊢
    split at hc
    · rename_i hb
      rw [if_pos hb]
      simp only [Option.map_eq_some_iff] at hc ⊢
      obtain ⟨F1, h1, h2⟩ := hc
      exact ⟨F1, drawC_q h h1, h2⟩
    · cases hc
  · rename_i hd
    rw [if_neg hd] at h ⊢
    simp only [Option.map_eq_some_iff] at hc ⊢
    obtain ⟨F1, h1, h2⟩ := hc
    exact ⟨F1, opsC_q h h1, h2⟩
def Answers (E : Env) (c : Caller) (l : List Query) : Prop := ∀ q ∈ l, ∃ r outs, c q.1 q.2 = some (r, outs) ∧ Ret E q.1 q.2 r outs
theorem Answers.nil {E : Env} {c : Caller} : Answers E c [] := fun q hq => by cases hq
theorem Answers.cons {E : Env} {c : Caller} {g : Nat} {ds : List D} {r : D} {outs : List D} {l : List Query} (h : c g ds = some (r, outs)) (k : Ret E g ds r outs) (m : Answers E c l) : Answers E c ((g, ds) :: l) := fun q hq => by
  rcases List.mem_cons.1 hq with rfl | hq
  · exact ⟨r, outs, h, k⟩
  · exact m q hq
theorem Answers.agree {E : Env} {c : Caller} : ∀ {l : List Query}, Answers E c l → ∃ N, ∀ n, N ≤ n → Agree c (callN E n) l
  | [], _ => ⟨0, fun _ _ q hq => by cases hq⟩
  | q :: l, h => by
    obtain ⟨N, hN⟩ := Answers.agree (l := l) fun q hq => h q (List.mem_cons_of_mem _ hq)
    obtain ⟨r, outs, h1, K, hK⟩ := h q List.mem_cons_self
    refine ⟨max N K, fun n hn p hp x hx => ?_⟩
    rcases List.mem_cons.1 hp with rfl | hp
    · rw [h1] at hx
      cases hx
      exact hK n (by omega)
    · exact hN n (by omega) p hp x hx
end Go.Own

namespace Go.Own
open D
def Runs (E : Env) (f : Nat) (V : List Nat) (cd : Code) (F : Fr) (x : Ex × Fr) : Prop := ∃ N, ∀ n, N ≤ n → execC E f V (callN E n) n cd F = some x
def To (E : Env) (f : Nat) (V : List Nat) (cd : Code) (F : Fr) (Q : Ex → Fr → Prop) : Prop := ∃ e F', Runs E f V cd F (e, F') ∧ Q e F'
def noCall : Caller := fun _ _ => none
section
variable {E : Env} {f : Nat} {V : List Nat} {F F' : Fr} {Q : Ex → Fr → Prop}
theorem To.regionQ {c : Caller} {id : Nat} {ops : Array Oper} {d : Bool} (h : regC E f V c ops d F = some F') (ha : Answers E c (regQ E f V c ops d F)) (k : Q .normal (trim E f V 0 id F')) : To E f V (.region id ops d) F Q := by
  obtain ⟨N, hN⟩ := ha.agree
  exact ⟨_, _, ⟨N, fun n hn => by simp only [execC, regC_q (hN n hn) h, Option.map_some]⟩, k⟩
theorem To.region {id : Nat} {ops : Array Oper} {d : Bool} (h : regC E f V noCall ops d F = some F') (k : Q .normal (trim E f V 0 id F')) : To E f V (.region id ops d) F Q :=
  ⟨_, _, ⟨0, fun n _ => by simp only [execC, regC_q (c' := callN E n) (fun q _ x hx => by cases hx) h, Option.map_some]⟩, k⟩
theorem To.skip (k : Q .normal F) : To E f V .skip F Q := ⟨_, _, ⟨0, fun _ _ => rfl⟩, k⟩
theorem To.exit {id : Nat} (k : Q (.exit id) (trim E f V 3 id F)) : To E f V (.exit id) F Q := ⟨_, _, ⟨0, fun _ _ => rfl⟩, k⟩
theorem To.ret (k : Q .ret F) : To E f V .ret F Q := ⟨_, _, ⟨0, fun _ _ => rfl⟩, k⟩
def thenTo (E : Env) (f : Nat) (V : List Nat) (b : Code) (Q : Ex → Fr → Prop) : Ex → Fr → Prop
  | .normal, F => To E f V b F Q
  | e, F => Q e F
theorem To.seq {a b : Code} (h : To E f V a F (thenTo E f V b Q)) : To E f V (.seq a b) F Q := by
  obtain ⟨e, F1, ⟨N, hN⟩, h2⟩ := h
  cases e with
  | normal =>
    obtain ⟨e2, F2, ⟨K, hK⟩, k2⟩ := h2
    exact ⟨e2, F2, ⟨max N K, fun n hn => by simp only [execC, hN n (by omega)]; exact hK n (by omega)⟩, k2⟩
  | exit i => exact ⟨_, _, ⟨N, fun n hn => by simp only [execC, hN n hn]⟩, h2⟩
  | ret => exact ⟨_, _, ⟨N, fun n hn => by simp only [execC, hN n hn]⟩, h2⟩
theorem To.seq_region {id : Nat} {ops : Array Oper} {d : Bool} {b : Code} (h : regC E f V noCall ops d F = some F') (k : To E f V b (trim E f V 0 id F') Q) : To E f V (.seq (.region id ops d) b) F Q := To.seq (To.region h k)
theorem To.seq_regionQ {c : Caller} {id : Nat} {ops : Array Oper} {d : Bool} {b : Code} (h : regC E f V c ops d F = some F') (ha : Answers E c (regQ E f V c ops d F)) (k : To E f V b (trim E f V 0 id F') Q) : To E f V (.seq (.region id ops d) b) F Q := To.seq (To.regionQ h ha k)
theorem To.cond {y : Operand} {a b : Code} {t : Bool} (hy : opd E F y = some (.lit (.bool t))) (h1 : t = true → To E f V a (trim E f V 1 (askKey y) F) Q) (h2 : t = false → To E f V b (trim E f V 2 (askKey y) F) Q) : To E f V (.cond y a b) F Q := by
  cases t with
  | true => obtain ⟨e, F1, ⟨N, hN⟩, k2⟩ := h1 rfl; exact ⟨e, F1, ⟨N, fun n hn => by simp only [execC, hy, if_true]; exact hN n hn⟩, k2⟩
  | false => obtain ⟨e, F1, ⟨N, hN⟩, k2⟩ := h2 rfl; exact ⟨e, F1, ⟨N, fun n hn => by simp only [execC, hy, Bool.false_eq_true, if_false]; exact hN n hn⟩, k2⟩
def blockTo (id : Nat) (Q : Ex → Fr → Prop) : Ex → Fr → Prop
  | .exit i, F => if i = id then Q .normal F else Q (.exit i) F
  | e, F => Q e F
theorem To.block {id : Nat} {b : Code} (h : To E f V b F (blockTo id Q)) : To E f V (.block id b) F Q := by
  obtain ⟨e, F1, ⟨N, hN⟩, h2⟩ := h
  cases e with
  | normal => exact ⟨_, F1, ⟨N, fun n hn => by simp only [execC, hN n hn]⟩, h2⟩
  | ret => exact ⟨_, F1, ⟨N, fun n hn => by simp only [execC, hN n hn]⟩, h2⟩
  | exit i =>
    simp only [blockTo] at h2
    by_cases hi : i = id
    · rw [if_pos hi] at h2
      exact ⟨_, F1, ⟨N, fun n hn => by simp only [execC, hN n hn, if_pos hi]⟩, h2⟩
    · rw [if_neg hi] at h2
      exact ⟨_, F1, ⟨N, fun n hn => by simp only [execC, hN n hn, if_neg hi]⟩, h2⟩
theorem To.loop {b : Code} (h : To E f V b F (thenTo E f V (.loop b) Q)) : To E f V (.loop b) F Q := by
  obtain ⟨e, F1, ⟨N, hN⟩, h2⟩ := h
  cases e with
  | normal =>
    obtain ⟨e2, F2, ⟨K, hK⟩, k2⟩ := h2
    refine ⟨e2, F2, ⟨max N K + 1, fun n hn => ?_⟩, k2⟩
    obtain ⟨m, rfl⟩ : ∃ m, n = m + 1 := ⟨n - 1, by omega⟩
    have hm := hK m (by omega)
    simp only [execC] at hm ⊢
    simp only [iter, hN (m + 1) (by omega)]
    exact iter_le (fun F y hy => execC_le (callN_le (Nat.le_succ m)) (Nat.le_succ m) hy) (Nat.le_refl m) hm
  | exit i =>
    refine ⟨_, _, ⟨N + 1, fun n hn => ?_⟩, h2⟩
    obtain ⟨m, rfl⟩ : ∃ m, n = m + 1 := ⟨n - 1, by omega⟩
    simp only [execC, iter, hN (m + 1) (by omega)]
  | ret =>
    refine ⟨_, _, ⟨N + 1, fun n hn => ?_⟩, h2⟩
    obtain ⟨m, rfl⟩ : ∃ m, n = m + 1 := ⟨n - 1, by omega⟩
    simp only [execC, iter, hN (m + 1) (by omega)]
theorem To.mono {cd : Code} {Q' : Ex → Fr → Prop} (h : To E f V cd F Q) (k : ∀ e F, Q e F → Q' e F) : To E f V cd F Q' := by
  obtain ⟨e, F1, h1, h2⟩ := h
  exact ⟨e, F1, h1, k _ _ h2⟩
end
def Leaves (E : Env) (f : Nat) (fd : Func) (n : Nat) (r : D) (outs : List D) : Ex → Fr → Prop
  | .exit _, _ => False
  | _, F => leaveC E f fd n F = some (r, outs)
theorem Ret.of_to {E : Env} {f : Nat} {fd : Func} {cd : Code} {ds : List D} {r : D} {outs : List D} {F0 : Fr} (hp : E.prim f = none) (hf : E.P.funcs[f]? = some fd) (hb : fd.body = some cd) (hl : ds.length ≤ fd.ntmps ∧ fd.ntmps < 1000000)
    (h0 : norm (E.vars f ++ lents E f 0 ds.length) (begins E f 0 ds) = F0) (hr : To E f (E.vars f ++ lents E f 0 ds.length) cd F0 (Leaves E f fd ds.length r outs)) : Ret E f ds r outs := by
  obtain ⟨e, F, ⟨N, hN⟩, h2⟩ := hr
  subst h0
  refine Ret.of (n := N + 1) ?_
  simp only [callN, hp, hf, hb, if_pos hl, hN N (Nat.le_refl N)]
  cases e with
  | exit i => exact h2.elim
  | normal => exact h2
  | ret => exact h2
end Go.Own

namespace Go.Own
open D
inductive Kt | seq (b : Code) | block (id : Nat) | loop (b : Code)
def dn : Code → List Kt → Code × List Kt
  | .seq a b, ks => dn a (.seq b :: ks)
  | .block id b, ks => dn b (.block id :: ks)
  | c, ks => (c, ks)
def go : Code → List Nat → List Kt → Code × List Kt
  | .seq a b, i :: p, ks => match i with
    | 0 => go a p (.seq b :: ks)
    | _ => go b p ks
  | .cond _ a b, i :: p, ks => match i with
    | 0 => go a p ks
    | _ => go b p ks
  | .block id b, _ :: p, ks => go b p (.block id :: ks)
  | .loop b, _ :: p, ks => go b p (.loop b :: ks)
  | c, _, ks => (c, ks)
def nextK : List Kt → Option (Code × List Kt)
  | [] => none
  | .seq b :: ks => some (dn b ks)
  | .block _ :: ks => nextK ks
  | .loop b :: ks => some (.loop b, ks)
def exitK (id : Nat) : List Kt → Option (List Kt)
  | [] => none
  | .block i :: ks => if id = i then some ks else exitK id ks
  | .seq _ :: ks => exitK id ks
  | .loop _ :: ks => exitK id ks
section
variable {E : Env} {f : Nat} {V : List Nat} {F F' : Fr} {Q : Ex → Fr → Prop}
def kTo (E : Env) (f : Nat) (V : List Nat) : List Kt → (Ex → Fr → Prop) → Ex → Fr → Prop
  | [], Q => Q
  | .seq b :: ks, Q => thenTo E f V b (kTo E f V ks Q)
  | .block id :: ks, Q => blockTo id (kTo E f V ks Q)
  | .loop b :: ks, Q => thenTo E f V (.loop b) (kTo E f V ks Q)
def AtC (E : Env) (f : Nat) (V : List Nat) (c : Code × List Kt) (F : Fr) (Q : Ex → Fr → Prop) : Prop := To E f V c.1 F (kTo E f V c.2 Q)
theorem AtC_dn : ∀ (c : Code) (ks : List Kt) {F : Fr}, AtC E f V (dn c ks) F Q → AtC E f V (c, ks) F Q
  | .seq a b, ks, _, h => To.seq (AtC_dn a (.seq b :: ks) h)
  | .block id b, ks, _, h => To.block (AtC_dn b (.block id :: ks) h)
  | .skip, _, _, h => h
  | .region .., _, _, h => h
  | .cond .., _, _, h => h
  | .loop _, _, _, h => h
  | .exit _, _, _, h => h
  | .ret, _, _, h => h
  | .rangeFunc .., _, _, h => h
  | .scope _, _, _, h => h
  | .label _, _, _, h => h
  | .goto _, _, _, h => h
  | .refuse _, _, _, h => h
theorem kTo_next : ∀ {ks : List Kt} {c : Code × List Kt} {F : Fr}, nextK ks = some c → AtC E f V c F Q → kTo E f V ks Q .normal F
  | [], c, _, h, _ => by simp [nextK] at h
  | .seq b :: ks, c, F, h, k => by
    simp only [nextK, Option.some.injEq] at h
    subst h
    exact AtC_dn b ks k
  | .block id :: ks, c, F, h, k => kTo_next (ks := ks) h k
  | .loop b :: ks, c, F, h, k => by
    simp only [nextK, Option.some.injEq] at h
    subst h
    exact k
theorem kTo_exit {id : Nat} : ∀ {ks ks' : List Kt} {F : Fr}, exitK id ks = some ks' → kTo E f V ks' Q .normal F → kTo E f V ks Q (.exit id) F
  | [], _, _, h, _ => by simp [exitK] at h
  | .seq _ :: ks, ks', F, h, k => kTo_exit (ks := ks) h k
  | .loop _ :: ks, ks', F, h, k => kTo_exit (ks := ks) h k
  | .block i :: ks, ks', F, h, k => by
    simp only [exitK] at h
    simp only [kTo, blockTo]
    split at h
    · rename_i hi
      simp only [Option.some.injEq] at h
      subst h
      rw [if_pos hi]; exact k
    · rename_i hi
      rw [if_neg hi]; exact kTo_exit h k
theorem kTo_ret : ∀ {ks : List Kt} {F : Fr}, Q .ret F → kTo E f V ks Q .ret F
  | [], _, k => k
  | .seq _ :: ks, _, k => kTo_ret (ks := ks) k
  | .loop _ :: ks, _, k => kTo_ret (ks := ks) k
  | .block _ :: ks, _, k => kTo_ret (ks := ks) k
theorem kTo_end : ∀ {ks : List Kt} {F : Fr}, nextK ks = none → Q .normal F → kTo E f V ks Q .normal F
  | [], _, _, k => k
  | .seq _ :: ks, _, h, _ => by simp [nextK] at h
  | .loop _ :: ks, _, h, _ => by simp [nextK] at h
  | .block _ :: ks, _, h, k => kTo_end (ks := ks) h k
abbrev St := List Nat × Fr
def frd (draw : Bool) (ops : Array Oper) (i : Nat) (s : St) : Fr := bif draw && !anchored ops i then maskF (hiddenOf ops s.1 i) s.2 else s.2
def pts (draw : Bool) (ops : Array Oper) (i : Nat) (s : St) (dst : Option Nat) (d : D) : St :=
  bif draw then (bif anchored ops i then ([], fin s.2 dst d) else (i :: s.1, set0 s.2 dst d)) else (s.1, fin s.2 dst d)
def stepS (E : Env) (f : Nat) (V : List Nat) (call : Caller) (ops : Array Oper) (draw : Bool) (i : Nat) (s : St) : Option St := match ops[i]? with
  | none => none
  | some o =>
    bif draw then
      bif anchored ops i then match wantedD ops s.2 o with
        | some true => (opC E f V call s.2 o).map fun F' => ([], F')
        | some false => some ([], fin s.2 o.dst (tup []))
        | none => none
      else match pureC E f call ops (maskF (hiddenOf ops s.1 i) s.2) o with
        | some d => bif seesAll ops (maskF (hiddenOf ops s.1 i) s.2) o && freeDst s.2 o && newDst ops s.1 o then some (i :: s.1, set0 s.2 o.dst d) else none
        | none => none
    else match wantedD ops s.2 o with
      | some true => (opC E f V call s.2 o).map fun F' => (s.1, F')
      | some false => some (s.1, fin s.2 o.dst (tup []))
      | none => none
def restS (E : Env) (f : Nat) (V : List Nat) (call : Caller) (ops : Array Oper) (draw : Bool) (l : List Nat) (s : St) : Option Fr :=
  if draw then drawC E f V call ops l s.1 s.2 else opsC E f V call ops l s.2
theorem rest_step {call : Caller} {ops : Array Oper} {draw : Bool} {i : Nat} {l : List Nat} {s s' : St} (h : stepS E f V call ops draw i s = some s') : restS E f V call ops draw (i :: l) s = restS E f V call ops draw l s' := by
  obtain ⟨blk, F⟩ := s
  unfold stepS at h
  cases ho : ops[i]? with
  | none => simp [ho] at h
  | some o =>
    simp only [ho] at h
    cases draw with
    | true =>
      simp only [cond_true] at h
      simp only [restS, if_true, drawC, ho]
      cases ha : anchored ops i with
      | true =>
        simp only [ha, cond_true] at h
        simp only [if_true]
        cases hw : wantedD ops F o with
        | none => simp [hw] at h
        | some b =>
          cases b with
          | true =>
            simp only [hw, Option.map_eq_some_iff] at h
            obtain ⟨F', h1, rfl⟩ := h
            simp only [h1]
          | false =>
            simp only [hw, Option.some.injEq] at h
            subst h
            rfl
      | false =>
        simp only [ha, cond_false] at h
        simp only [Bool.false_eq_true, if_false]
        split at h
        · rename_i d hp
          cases hc : (seesAll ops (maskF (hiddenOf ops blk i) F) o && freeDst F o && newDst ops blk o) with
          | false => rw [hc] at h; simp at h
          | true =>
            rw [hc] at h
            simp only [cond_true, Option.some.injEq] at h
            subst h
            simp only [hp, if_true]
        · cases h
    | false =>
      simp only [cond_false] at h
      simp only [restS, Bool.false_eq_true, if_false, opsC, ho]
      cases hw : wantedD ops F o with
      | none => simp [hw] at h
      | some b =>
        cases b with
        | true =>
          simp only [hw, Option.map_eq_some_iff] at h
          obtain ⟨F', h1, rfl⟩ := h
          simp only [h1]
        | false =>
          simp only [hw, Option.some.injEq] at h
          subst h
          rfl
theorem stepS_le {c c' : Caller} (h : CallLe c c') {ops : Array Oper} {draw : Bool} {i : Nat} {s s' : St} (hc : stepS E f V c ops draw i s = some s') : stepS E f V c' ops draw i s = some s' := by
  unfold stepS at hc ⊢
  split at hc
  · cases hc
  · rename_i o ho
    cases draw with
    | true =>
      simp only [cond_true] at hc ⊢
      cases ha : anchored ops i with
      | true =>
        simp only [ha, cond_true] at hc ⊢
        split at hc
        · simp only [Option.map_eq_some_iff] at hc ⊢
          obtain ⟨F', h1, h2⟩ := hc
          exact ⟨F', opC_le h h1, h2⟩
        · exact hc
        · cases hc
      | false =>
        simp only [ha, cond_false] at hc ⊢
        split at hc
        · rename_i d hp
          rw [pureC_le h hp]; exact hc
        · cases hc
    | false =>
      simp only [cond_false] at hc ⊢
      split at hc
      · simp only [Option.map_eq_some_iff] at hc ⊢
        obtain ⟨F', h1, h2⟩ := hc
        exact ⟨F', opC_le h h1, h2⟩
      · exact hc
      · cases hc
def Pt (E : Env) (f : Nat) (V : List Nat) (body : Code) (p : List Nat) (F : Fr) (Q : Ex → Fr → Prop) : Prop := AtC E f V (go body p []) F Q
def opsAt (body : Code) (p : List Nat) : Array Oper := match (go body p []).1 with
  | .region _ ops _ => ops
  | _ => #[]
def drawAt (body : Code) (p : List Nat) : Bool := match (go body p []).1 with
  | .region _ _ d => d
  | _ => false
def idAt (body : Code) (p : List Nat) : Nat := match (go body p []).1 with
  | .region id _ _ => id
  | .exit id => id
  | _ => 0
def isReg (body : Code) (p : List Nat) : Bool := match (go body p []).1 with
  | .region _ ops d => !d || (edgesBack ops && ops.toList.all (fun o => match o.op with | .select .. => false | _ => true))
  | _ => false
variable {body : Code} {p p' : List Nat}
def AtO (E : Env) (f : Nat) (V : List Nat) (body : Code) (p : List Nat) (j : Nat) (s : St) (Q : Ex → Fr → Prop) : Prop :=
  ∃ F1, (∃ N, ∀ n, N ≤ n → restS E f V (callN E n) (opsAt body p) (drawAt body p) ((List.range (opsAt body p).size).drop j) s = some F1) ∧ kTo E f V (go body p []).2 Q .normal (trim E f V 0 (idAt body p) (norm V F1))
theorem Pt.reg (hr : isReg body p = true) (k : AtO E f V body p 0 ([], bif drawAt body p then freshC F (opsAt body p).toList else F) Q) : Pt E f V body p F Q := by
  obtain ⟨F1, ⟨N, hN⟩, k⟩ := k
  simp only [Pt, AtC]
  simp only [isReg, opsAt, drawAt, idAt] at *
  split at hr
  · rename_i id ops d hg
    simp only [hg] at hN k ⊢
    refine ⟨_, _, ⟨N, fun n hn => ?_⟩, k⟩
    have := hN n hn
    simp only [List.drop_zero, restS] at this
    simp only [execC, regC]
    cases d with
    | true =>
      simp only [Bool.not_true, Bool.false_or] at hr
      simp only [if_true, cond_true] at this
      simp only [if_true]
      rw [if_pos (by exact hr), this]
      rfl
    | false =>
      simp only [Bool.false_eq_true, if_false, cond_false] at this
      simp only [Bool.false_eq_true, if_false, this, Option.map_some]
  · cases hr
variable {j : Nat} {s s' : St}
theorem drop_range {n j : Nat} (h : j < n) : (List.range n).drop j = j :: (List.range n).drop (j + 1) := by
  rw [List.drop_eq_getElem_cons (by simpa using h)]
  simp
theorem AtO.step (hs : ∃ N, ∀ n, N ≤ n → stepS E f V (callN E n) (opsAt body p) (drawAt body p) j s = some s') (k : AtO E f V body p (j + 1) s' Q) : AtO E f V body p j s Q := by
  obtain ⟨N, hN⟩ := hs
  obtain ⟨F1, ⟨M, hM⟩, k⟩ := k
  have hj : j < (opsAt body p).size := by
    have := hN N (Nat.le_refl N)
    unfold stepS at this
    cases ho : (opsAt body p)[j]? with
    | none => simp [ho] at this
    | some o => exact (Array.getElem?_eq_some_iff.1 ho).1
  refine ⟨F1, ⟨max N M, fun n hn => ?_⟩, k⟩
  rw [drop_range hj, rest_step (hN n (by omega))]
  exact hM n (by omega)
theorem noCall_le {c : Caller} : CallLe noCall c := fun f ds x h => by cases h
def segS (E : Env) (f : Nat) (V : List Nat) (ops : Array Oper) (draw : Bool) : Nat → Nat → St → Option St
  | 0, _, s => some s
  | k + 1, j, s => match stepS E f V noCall ops draw j s with
    | some s' => segS E f V ops draw k (j + 1) s'
    | none => none
theorem AtO.seg_ : ∀ (k : Nat) {j : Nat} {s s' : St}, segS E f V (opsAt body p) (drawAt body p) k j s = some s' → AtO E f V body p (j + k) s' Q → AtO E f V body p j s Q
  | 0, j, s, s', h, k => by
    simp only [segS, Option.some.injEq] at h
    subst h; exact k
  | n + 1, j, s, s', h, k => by
    simp only [segS] at h
    split at h
    · rename_i s1 h1
      refine AtO.step ⟨0, fun m _ => stepS_le noCall_le h1⟩ (AtO.seg_ n h ?_)
      rw [Nat.add_assoc, Nat.add_comm 1 n]; exact k
    · cases h
def segG (E : Env) (f : Nat) (V : List Nat) (body : Code) (p : List Nat) (k j : Nat) (s : St) : St := (segS E f V (opsAt body p) (drawAt body p) k j s).getD ([], [])
def okS (E : Env) (f : Nat) (V : List Nat) (body : Code) (p : List Nat) (k j : Nat) (s : St) : Bool := (segS E f V (opsAt body p) (drawAt body p) k j s).isSome
theorem AtO.seg (k : Nat) (h : okS E f V body p k j s = true) (r : AtO E f V body p (j + k) (segG E f V body p k j s) Q) : AtO E f V body p j s Q := by
  unfold okS at h
  obtain ⟨s', hs⟩ := Option.isSome_iff_exists.1 h
  refine AtO.seg_ k hs ?_
  unfold segG at r
  rw [hs] at r
  exact r
theorem AtO.done (hj : (opsAt body p).size = j) (hk : nextK (go body p []).2 = some (go body p' [])) (hF : trim E f V 0 (idAt body p) (norm V s.2) = F') (k : Pt E f V body p' F' Q) : AtO E f V body p j s Q := by
  refine ⟨s.2, ⟨0, fun n _ => ?_⟩, ?_⟩
  · rw [List.drop_eq_nil_iff.2 (by simp [hj])]
    simp only [restS, drawC, opsC, ite_self]
  · rw [hF]
    exact kTo_next hk k
theorem AtO.fall (hj : (opsAt body p).size = j) (hk : nextK (go body p []).2 = none) (hF : trim E f V 0 (idAt body p) (norm V s.2) = F') (k : Q .normal F') : AtO E f V body p j s Q := by
  refine ⟨s.2, ⟨0, fun n _ => ?_⟩, ?_⟩
  · rw [List.drop_eq_nil_iff.2 (by simp [hj])]
    simp only [restS, drawC, opsC, ite_self]
  · rw [hF]
    exact kTo_end hk k
def operAt (body : Code) (p : List Nat) (j : Nat) : Oper := match (opsAt body p)[j]? with
  | some o => o
  | none => { op := .move (.const undef), dst := none, type := 0, after := #[], guard := none, pos := "" }
end
end Go.Own

namespace Go.Own
open D
def primWrite (t e : Nat) : List D → Option (D × List D)
  | [D.bld t' e' l, D.lit (.string s)] => if t' = t ∧ e' = e ∧ l.length + s.size ≤ 140737488355328 then some (D.tup [D.lit (.int .i64 s.size), D.lit .nilIface], [D.bld t e (l ++ s.data.toList)]) else none
  | _ => none
def primString (t e : Nat) : List D → Option (D × List D)
  | [D.bld t' e' l] => if t' = t ∧ e' = e then some (D.lit (.string ⟨l.toArray⟩), [D.box [D.undef, D.undef]]) else none
  | _ => none
def lowest (x : Nat) : Nat → Nat → Nat
  | 0, k => k
  | n + 1, k => if x.testBit k then k else lowest x n (k + 1)
def primZeros : List D → Option (D × List D)
  | [D.lit (.int .u32 n)] => if 0 ≤ n ∧ n < 4294967296 then some (D.lit (.int .i64 (lowest n.toNat 32 0)), []) else none
  | _ => none
def primCmp : List D → Option (D × List D)
  | [D.lit (.string a), D.lit (.string b)] => some (D.lit (.int .i64 (if a.toList == b.toList then 0 else if Op.bytesLess a.toList b.toList then -1 else 1)), [])
  | _ => none
def primClone : List D → Option (D × List D)
  | [D.sl es] => some (D.own es, [])
  | _ => none
end Go.Own
