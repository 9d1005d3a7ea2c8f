/- An interpreter of function bodies, sound. No conditions. -/
import Derived.Calls
import Derived.Laws.Sem
set_option linter.all false
namespace Go.Own
theorem zJ {α:Type _} (a b:α):(some a=some b)=(a=b):=Option.some.injEq a b
abbrev Path:=List (Nat×Nat)
inductive D where
 | undef
 | lit (v:Value)
 | sl (es:List (List D))
 | own (es:List (List D))
 | agg (cs:List D)
 | box (cs:List D)
 | ref (cs:List D)
 | map (es:List (Value×D))
 | bld (t e:Nat) (l:List UInt8)
 | fn (f:Nat) (caps:List D)
 | tup (ds:List D)
 | alias (s:Nat) (ps:Path)
 | sub (s:Nat) (ps:Path) (off len:Nat)
 | place (s:Nat) (ps:Path) (i o:Nat)
 deriving Inhabited
namespace D
def cells:D->List D
 | agg cs=>cs
 | d=>[d]
def elem:D->Nat->Option (List D)
 | own es,i=>es[i]?
 | box cs,0=>some cs
 | agg cs,0=>some cs
 | tup cs,0=>some cs
 | _,_=>none
def setElem:D->Nat->List D->Option D
 | own es,i,cs=>some (own (es.set i cs))
 | box _,0,cs=>some (box cs)
 | agg _,0,cs=>some (agg cs)
 | tup _,0,cs=>some (tup cs)
 | _,_,_=>none
def getP:D->Path->Option D
 | d,[]=>some d
 | d,(i,o)::ps=>match d.elem i with
  | some cs=>match cs[o]? with
   | some c=>getP c ps
   | none=>none
  | none=>none
def setP:D->Path->D->Option D
 | _,[],x=>some x
 | d,(i,o)::ps,x=>match d.elem i with
  | some cs=>match cs[o]? with
   | some c=>match setP c ps x with
    | some c'=>d.setElem i (cs.set o c')
    | none=>none
   | none=>none
  | none=>none
def ex1:D->Bool
 | own _ | box _ | map _ | bld ..=>true
 | _=>false
def node1:D->Bool
 | own _ | box _ | map _ | bld .. | sl _ | ref _=>true
 | _=>false
def ex2:D->Bool
 | own _ | box _ | map _ | bld ..=>true
 | agg cs=>cs.any ex1
 | _=>false
def excl:D->Bool
 | own _ | box _ | map _ | bld ..=>true
 | agg cs=>cs.any ex1
 | tup ds=>ds.any ex2
 | _=>false
def pts1:D->Bool
 | alias .. | sub .. | place ..=>true
 | _=>false
def pre:Path->Path->Bool
 | [],_=>true
 | (a,b)::p,(c,d)::q=>a == c&&b == d&&pre p q
 | _,_=>false
def kill1 (dead:Bool->Nat->Path->Bool):D->D
 | alias s ps=>if dead true s ps then undef else alias s ps
 | sub s ps a b=>if dead false s ps then undef else sub s ps a b
 | place s ps i o=>if dead false s ps then undef else place s ps i o
 | d=>d
def kill2 (dead:Bool->Nat->Path->Bool):D->D
 | agg cs=>agg (cs.map (kill1 dead))
 | fn f cs=>fn f (cs.map (kill1 dead))
 | d=>kill1 dead d
def deadAt (s:Nat) (q:Path) (_:Bool) (s':Nat) (p:Path):Bool:=s' == s&&pre q p
def deadIn (s:Nat) (q:Path) (b:Bool) (s':Nat) (p:Path):Bool:=s' == s&&pre q p&&!(b&&p.length == q.length)
def cellIn (i o n:Nat):Path->Bool
 | (i',c)::_=>i' == i&&decide (o<=c)&&decide (c<o+n)
 | []=>false
def deadCells (s:Nat) (q:Path) (i o n:Nat) (_:Bool) (s':Nat) (p:Path):Bool:=s' == s&&pre q p&&cellIn i o n (p.drop q.length)
def view1 (s:Nat) (ps:Path):D->D
 | own _ | box _ | map _ | bld ..=>alias s ps
 | d=>d
def viewCells (s:Nat) (ps:Path) (i:Nat):Nat->List D->List D
 | _,[]=>[]
 | o,c::cs=>view1 s (ps++[(i,o)]) c::viewCells s ps i (o+1) cs
def view (s:Nat) (ps:Path):D->D
 | agg cs=>agg (viewCells s ps 0 0 cs)
 | tup _=>undef
 | d=>view1 s ps d
def ofCells (isAgg:Bool) (cs:List D):Option D:=
 if isAgg then some (agg cs) else match cs with | [c]=>some c | _=>none
mutual
def freeze:D->Option D
 | lit v=>some (lit v)
 | sl es=>some (sl es)
 | ref cs=>some (ref cs)
 | own es=>(freezeEs es).map sl
 | box cs=>(freezeCs cs).map ref
 | agg cs=>(freezeCs cs).map agg
 | fn f cs=>(freezeCs cs).map (fn f)
 | _=>none
def freezeCs:List D->Option (List D)
 | []=>some []
 | c::cs=>match freeze c,freezeCs cs with
  | some c',some cs'=>some (c'::cs')
  | _,_=>none
def freezeEs:List (List D)->Option (List (List D))
 | []=>some []
 | c::cs=>match freezeCs c,freezeEs cs with
  | some c',some cs'=>some (c'::cs')
  | _,_=>none
end
mutual
def flat:D->Bool
 | lit _=>true
 | agg cs=>flatCs cs
 | own es=>flatEs es
 | tup cs=>flatCs cs
 | _=>false
def flatCs:List D->Bool
 | []=>true
 | c::cs=>flat c&&flatCs cs
def flatEs:List (List D)->Bool
 | []=>true
 | c::cs=>flatCs c&&flatEs cs
end
def flatR:D->Bool
 | sl []=>true
 | d=>d.flat
end D
open D
abbrev Fr:=List (Nat×D)
def get:Fr->Nat->D
 | [],_=>D.undef
 | (k,d)::r,s=>if k=s then d else get r s
def put0:Fr->Nat->D->Fr
 | [],s,d=>[(s,d)]
 | (k,e)::r,s,d=>if k=s then (s,d)::r else (k,e)::put0 r s d
def killF (dead:Bool->Nat->Path->Bool) (F:Fr):Fr:=F.map fun x=>(x.1,D.kill2 dead x.2)
def kill (F:Fr) (s:Nat) (q:Path):Fr:=killF (deadAt s q) F
def killB (F:Fr) (s:Nat) (q:Path):Fr:=killF (deadIn s q) F
def D.quiet:D->Bool
 | lit _=>true
 | undef=>true
 | _=>false
def put (F:Fr) (s:Nat) (d:D):Fr:=
 if (get F s).quiet then put0 F s d else kill (put0 F s d) s []
def fin (F:Fr) (dst:Option Nat) (d:D):Fr:=match dst with
 | some s=>put F s d
 | none=>F
def getAt (F:Fr) (s:Nat) (ps:Path):Option D:=(get F s).getP ps
def setAt (F:Fr) (s:Nat) (ps:Path) (d:D):Option Fr:=((get F s).setP ps d).map (put0 F s)
def nilSlice:Value->Bool
 | .slice none 0 0=>true
 | _=>false
def const1 (v:Value):D:=if nilSlice v then own [] else lit v
def constD:Value->D
 | .agg cs=>agg (cs.toList.map const1)
 | v=>const1 v
def constOK:Value->Bool
 | .agg cs=>cs.toList.all Value.oneCell'
 | v=>v.oneCell'
inductive Mode | snap | move | inout
 deriving DecidableEq
inductive Ask where
 | ret (x:Option (D×List D))
 | call (f:Nat) (ds:List D) (k:D×List D->Ask)
def runAsk (c:Nat->List D->Option (D×List D)):Ask->Option (D×List D)
 | .ret x=>x
 | .call f ds k=>match c f ds with
  | some r=>runAsk c (k r)
  | none=>none
structure Env where
 P:Program
 mode:Nat->Nat->Mode
 prim:Nat->Option (List D->Option (D×List D))
 vars:Nat->List Nat
 eager:Nat->Nat->Bool
 bld:Nat->Option Nat:=fun _=>none
 good:(Nat->Option Obj)->Prop:=fun _=>True
 keep:Nat->Nat->Nat->Option (List Nat):=fun _ _ _=>none
 chill:Nat->Nat->Nat->List (Nat×Nat):=fun _ _ _=>[]
 hand:Nat->Option (List D->Ask):=fun _=>none
def lent (i:Nat):Nat:=1000000+i
section types
variable (P:Program)
def isAggT (t:Nat):Bool:=match P.underlying t with
 | some (.struct _) | some (.array _ _)=>true
 | _=>false
def sizeT (t:Nat):Nat:=((P.info? t).map (·.size)).getD 0
def bytesT (t:Nat):Nat:=((P.info? t).map (·.bytes)).getD 0
def sliceT (t:Nat):Option Nat:=match P.underlying t with
 | some (.slice e)=>some e
 | _=>none
def rowT (t:Nat):Bool:=match P.underlying t with
 | some (.slice _)=>true
 | some .string=>true
 | _=>false
def arrayT (t:Nat):Option (Nat×Nat):=match P.underlying t with
 | some (.array n e)=>some (n,e)
 | _=>none
def mapT (t:Nat):Option (Nat×Nat):=match P.underlying t with
 | some (.map k e)=>some (k,e)
 | _=>none
def fieldT (t j:Nat):Option Field:=match P.underlying t with
 | some (.struct fs)=>fs[j]?
 | _=>none
def zeroT (t:Nat):Option D:=match (P.info? t).bind (·.zero) with
 | some v=>if constOK v then some (constD v) else none
 | none=>none
end types
def opd (E:Env) (F:Fr):Operand->Option D
 | .tmp t=>some (view t [] (get F t))
 | .const v=>if constOK v then some (constD v) else none
 | .func f=>some (fn f [])
 | .global _=>none
def takeAt (F:Fr) (s:Nat) (ps:Path):Option (D×Fr):=match getAt F s ps with
 | some c=>
  if c.ex1 then match setAt F s ps D.undef with
   | some F'=>some (c,kill F' s ps)
   | none=>none
  else match c with
   | sl es=>some (sl es,F)
   | ref cs=>some (ref cs,F)
   | _=>none
 | none=>none
def takeSub (F:Fr) (s:Nat) (ps:Path) (off len:Nat):Option (D×Fr):=match getAt F s ps with
 | some (own es)=>if len=0 then some (sl [],F)
  else if off=0/\len<=es.length then match setAt F s ps D.undef with
   | some F'=>some (own (es.take len),kill F' s ps)
   | none=>none
  else none
 | some (sl es)=>if off+len<=es.length then some (sl ((es.drop off).take len),F) else none
 | _=>none
def takeCell (F:Fr):D->Option (D×Fr)
 | alias s ps=>takeAt F s ps
 | sub s ps a b=>takeSub F s ps a b
 | lit v=>some (lit v,F)
 | sl es=>some (sl es,F)
 | ref cs=>some (ref cs,F)
 | fn f cs=>some (fn f cs,F)
 | .undef=>some (.undef,F)
 | _=>none
def takeCells (F:Fr) (t o:Nat):Nat->Option (List D×Fr)
 | 0=>some ([],F)
 | k+1=>match get F t with
  | agg cs=>match cs[o]? with
   | some c=>match takeCell F c with
    | some (c',F1)=>match takeCells F1 t (o+1) k with
     | some (cs',F2)=>some (c'::cs',F2)
     | none=>none
    | none=>none
   | none=>none
  | _=>none
def bad1:D->Bool
 | alias .. | sub .. | place .. | .undef=>true
 | _=>false
def takeSlot (F:Fr) (t:Nat):D->Option (D×Fr)
 | agg cs=>
  if cs.any ex1 then
   if cs.any pts1 then none else some (agg cs,kill (put0 F t D.undef) t [])
  else match takeCells F t 0 cs.length with
   | some (cs',F')=>some (agg cs',F')
   | none=>none
 | fn f cs=>if cs.any bad1 then none else some (fn f cs,F)
 | own es=>some (own es,kill (put0 F t D.undef) t [])
 | box es=>some (box es,kill (put0 F t D.undef) t [])
 | map es=>some (map es,kill (put0 F t D.undef) t [])
 | bld t' e l=>some (bld t' e l,kill (put0 F t D.undef) t [])
 | alias s ps=>takeAt F s ps
 | sub s ps a b=>takeSub F s ps a b
 | lit v=>some (lit v,F)
 | sl es=>some (sl es,F)
 | ref cs=>some (ref cs,F)
 | _=>none
def takeOp (E:Env) (F:Fr):Operand->Option (D×Fr)
 | .tmp t=>takeSlot F t (get F t)
 | .const v=>if constOK v then some (constD v,F) else none
 | .func f=>some (fn f [],F)
 | .global _=>none
inductive Ptr | imm (cs:List D) | loc (s:Nat) (ps:Path) (i o:Nat)
def ptrOf (F:Fr):D->Option Ptr
 | ref cs=>some (.imm cs)
 | place s ps i o=>some (.loc s ps i o)
 | alias s ps=>match getAt F s ps with
  | some (box _)=>some (.loc s ps 0 0)
  | some (ref cs)=>some (.imm cs)
  | _=>none
 | _=>none
def loadD (E:Env) (F:Fr) (t:Nat) (x:D):Option D:=if (E.P.underlying t).isNone then none else match ptrOf F x with
 | some (.imm cs)=>if sizeT E.P t<=cs.length then ofCells (isAggT E.P t) (cs.take (sizeT E.P t)) else none
 | some (.loc s ps i o)=>match getAt F s ps with
  | some nd=>match nd.elem i with
   | some ec=>if o+sizeT E.P t<=ec.length then ofCells (isAggT E.P t) (viewCells s ps i o ((ec.drop o).take (sizeT E.P t))) else none
   | none=>none
  | none=>none
 | none=>none
def storeD (E:Env) (F:Fr) (t:Nat) (x y:D):Option Fr:=match ptrOf F x with
 | some (.loc s ps i o)=>match getAt F s ps with
  | some nd=>match nd.elem i with
   | some ec=>
    if y.cells.length=sizeT E.P t/\o+sizeT E.P t<=ec.length then
     match nd.setElem i (ec.take o++y.cells++ec.drop (o+sizeT E.P t)) with
     | some nd'=>match setAt F s ps nd' with
      | some F'=>some (if ((ec.drop o).take (sizeT E.P t)).any node1 then killF (deadCells s ps i o (sizeT E.P t)) F' else F')
      | none=>none
     | none=>none
    else none
   | none=>none
  | none=>none
 | _=>none
def asInt:D->Option Int
 | lit (.int _ n)=>some n
 | _=>none
def asNat (d:D):Option Nat:=match asInt d with
 | some n=>if 0<=n then some n.toNat else none
 | none=>none
def elemsOf (F:Fr):D->Option (List (List D))
 | sl es=>some es
 | alias s ps=>match getAt F s ps with
  | some (own es)=>some es
  | some (sl es)=>some es
  | _=>none
 | sub s ps off len=>match getAt F s ps with
  | some (own es)=>if off+len<=es.length then some ((es.drop off).take len) else none
  | some (sl es)=>if off+len<=es.length then some ((es.drop off).take len) else none
  | _=>none
 | _=>none
def indexAddrD (E:Env) (F:Fr) (t:Nat) (x ix:D):Option D:=match asNat ix with
 | none=>none
 | some i=>match sliceT E.P t with
  | some e=>match x with
   | sl es=>match es[i]? with
    | some c=>if c.length=sizeT E.P e then some (ref c) else none
    | none=>none
   | alias s ps=>match getAt F s ps with
    | some (own es)=>match es[i]? with
     | some c=>if c.length=sizeT E.P e then some (place s ps i 0) else none
     | none=>none
    | some (sl es)=>match es[i]? with
     | some c=>if c.length=sizeT E.P e then some (ref c) else none
     | none=>none
    | _=>none
   | sub s ps off len=>if i<len then match getAt F s ps with
    | some (own es)=>match es[off+i]? with
     | some c=>if c.length=sizeT E.P e/\off+len<=es.length then some (place s ps (off+i) 0) else none
     | none=>none
    | some (sl es)=>match es[off+i]? with
     | some c=>if c.length=sizeT E.P e/\off+len<=es.length then some (ref c) else none
     | none=>none
    | _=>none
    else none
   | _=>none
  | none=>match arrayT E.P t with
   | some (n,e)=>if i<n then (if sizeT E.P e=0 then none else match ptrOf F x with
     | some (.imm cs)=>some (ref (cs.drop (i*sizeT E.P e)))
     | some (.loc s ps k o)=>some (place s ps k (o+i*sizeT E.P e))
     | none=>none)
    else none
   | none=>none
def binV (op:BinOp):Value->Value->Option Value
 | .int k a,.int k' b=>
  match op with
  | .shl=>if b<0 then none else some (.int k (k.wrap (a*2^(min b.toNat k.bits))))
  | .shr=>if b<0 then none else some (.int k (a.fdiv (2^(min b.toNat k.bits))))
  | op=>if k≠k' then none else match op with
   | .add=>some (.int k (k.wrap (a+b)))
   | .sub=>some (.int k (k.wrap (a-b)))
   | .mul=>some (.int k (k.wrap (a*b)))
   | .quo=>if b=0 then none else some (.int k (k.wrap (a.tdiv b)))
   | .rem=>if b=0 then none else some (.int k (a.tmod b))
   | .and=>some (.int k (k.wrap (BitVec.ofInt k.bits a &&& BitVec.ofInt k.bits b).toNat))
   | .or=>some (.int k (k.wrap (BitVec.ofInt k.bits a ||| BitVec.ofInt k.bits b).toNat))
   | .xor=>some (.int k (k.wrap (BitVec.ofInt k.bits a ^^^ BitVec.ofInt k.bits b).toNat))
   | .andNot=>some (.int k (k.wrap (BitVec.ofInt k.bits a &&& ~~~ BitVec.ofInt k.bits b).toNat))
   | .eql=>some (.bool (a == b))
   | .neq=>some (.bool (a != b))
   | .lss=>some (.bool (decide (a<b)))
   | .leq=>some (.bool (decide (a<=b)))
   | .gtr=>some (.bool (decide (a > b)))
   | .geq=>some (.bool (decide (a ≥ b)))
   | _=>none
 | .string a,.string b=>
  match op with
  | .add=>if a.size+b.size<=9223372036854775807 then some (.string (a++b)) else none
  | .eql=>some (.bool (a.toList == b.toList))
  | .neq=>some (.bool !(a.toList == b.toList))
  | .lss=>some (.bool (Op.bytesLess a.toList b.toList))
  | .leq=>some (.bool (Op.bytesLess a.toList b.toList || a.toList == b.toList))
  | .gtr=>some (.bool !(Op.bytesLess a.toList b.toList || a.toList == b.toList))
  | .geq=>some (.bool !(Op.bytesLess a.toList b.toList))
  | _=>none
 | _,_=>none
def eq1K (P:Program) (xs ys:List D) (f:Field) (k:Option Bool):Option Bool:=
 if f.name = "_" then none else match P.underlying f.type, xs[f.offset]?, ys[f.offset]? with
  | some (.int _),some (lit (.int q a)),some (lit (.int q' b))=>if q=q' then (if a == b then k else some false) else none
  | some .bool,some (lit (.bool a)),some (lit (.bool b))=>if a == b then k else some false
  | some .string,some (lit (.string a)),some (lit (.string b))=>if a.toList == b.toList then k else some false
  | _,_,_=>none
def eqFlatK (P:Program) (xs ys:List D) (k:Option Bool):List Field->Option Bool
 | []=>k
 | f::fs=>eq1K P xs ys f (eqFlatK P xs ys k fs)
def structFs (P:Program) (t:Nat):Option (List Field):=match P.underlying t with
 | some (.struct gs)=>some gs.toList
 | _=>none
def eqFieldsD (P:Program) (xs ys:List D):List Field->Option Bool
 | []=>some true
 | f::fs=>match structFs P f.type with
  | some gs => if f.name = "_" || P.stoodInHeld f.type then none else eqFlatK P ((xs.drop f.offset).take (sizeT P f.type)) ((ys.drop f.offset).take (sizeT P f.type)) (eqFieldsD P xs ys fs) gs
  | none=>eq1K P xs ys f (eqFieldsD P xs ys fs)
def binD (E:Env) (op:BinOp) (t:Nat):D->D->Option D
 | agg xs,agg ys=>match E.P.underlying t with
  | some (.struct fs)=>if E.P.stoodInHeld t || E.P.eqGuardType E.P.depth t then none else match op,eqFieldsD E.P xs ys fs.toList with
   | .eql,some b=>some (lit (.bool b))
   | .neq,some b=>some (lit (.bool !b))
   | _,_=>none
  | _=>none
 | lit a,lit b=>match a,b with
  | .bool x,.bool y=>match op,E.P.underlying t with
   | .eql,some .bool=>some (lit (.bool (x == y)))
   | .neq,some .bool=>some (lit (.bool (x != y)))
   | _,_=>none
  | a,b=>(binV op a b).map lit
 | _,_=>none
def unV (op:UnOp):Value->Option Value
 | .int k n=>match op with
  | .neg=>some (.int k (k.wrap (0-n)))
  | .xor=>some (.int k (k.wrap (BitVec.ofInt k.bits (if k.signed then -1 else k.max) ^^^ BitVec.ofInt k.bits n).toNat))
  | _=>none
 | .bool b=>match op with
  | .not=>some (.bool !b)
  | _=>none
 | _=>none
def lenD (E:Env) (F:Fr) (t:Nat) (d:D):Option D:=match E.P.underlying t,d with
 | some .string,lit (.string s)=>some (lit (.int .i64 s.size))
 | some (.slice _),own []=>some (lit (.int .i64 0))
 | some (.slice _),d=>(elemsOf F d).map fun es=>lit (.int .i64 es.length)
 | some (.map _ _),alias s ps=>match getAt F s ps with
  | some (map es)=>some (lit (.int .i64 es.length))
  | _=>none
 | _,_=>none
def fillD (place:Nat->Option (Nat×Nat)) (cells:List D):List (Nat×D)->Option (List D)
 | []=>some cells
 | (i,v)::r=>match place i with
  | some (off,size)=>
   if v.cells.length=size/\off+size<=cells.length then
    fillD place (cells.take off++v.cells++cells.drop (off+size)) r
   else none
  | none=>none
def takeParts (E:Env) (F:Fr):List (Nat×Operand)->Option (List (Nat×D)×Fr)
 | []=>some ([],F)
 | (i,x)::r=>match takeOp E F x with
  | some (d,F1)=>match takeParts E F1 r with
   | some (ds,F2)=>some ((i,d)::ds,F2)
   | none=>none
  | none=>none
def setElems (size:Nat) (es:List (List D)):List (Nat×D)->Option (List (List D))
 | []=>some es
 | (i,d)::r=>if d.cells.length=size/\i<es.length then setElems size (es.set i d.cells) r else none
def freezeAt (F:Fr) (s:Nat) (ps:Path):Option D:=match getAt F s ps with
 | some c=>c.freeze
 | none=>none
def snap1 (F:Fr):D->Option D
 | alias s ps=>freezeAt F s ps
 | sub s ps off len=>match freezeAt F s ps with
  | some (sl es)=>if off+len<=es.length then some (sl ((es.drop off).take len)) else none
  | _=>none
 | place s ps i o=>match freezeAt F s ps with
  | some (sl es)=>(es[i]?).map fun cs=>ref (cs.drop o)
  | some (ref cs)=>if i=0 then some (ref (cs.drop o)) else none
  | _=>none
 | d=>d.freeze
def snaps1 (F:Fr):List D->Option (List D)
 | []=>some []
 | c::cs=>match snap1 F c,snaps1 F cs with
  | some c',some cs'=>some (c'::cs')
  | _,_=>none
def snapD (F:Fr):D->Option D
 | agg cs=>(snaps1 F cs).map agg
 | fn f cs=>(snaps1 F cs).map (fn f)
 | d=>snap1 F d
def frzAt (F:Fr) (s:Nat) (ps:Path):Option Fr:=match getAt F s ps with
 | some c=>
  if c.ex1 then match c.freeze with
   | some c'=>(setAt F s ps c').map fun F'=>killB F' s ps
   | none=>none
  else if c.node1 then some F else none
 | none=>none
def frz1 (F:Fr):D->Option Fr
 | alias s ps=>frzAt F s ps
 | sub s ps _ _=>frzAt F s ps
 | place ..=>none
 | _=>some F
def frzs (F:Fr):List D->Option Fr
 | []=>some F
 | c::cs=>match frz1 F c with
  | some F1=>frzs F1 cs
  | none=>none
def frzD (F:Fr):D->Option Fr
 | agg cs=>frzs F cs
 | fn _ cs=>frzs F cs
 | d=>frz1 F d
inductive Ex | normal | exit (id:Nat) | ret
inductive Arg | opn (x:Operand) | cap (j:Nat)
def capsOf (E:Env) (F:Fr) (x:Operand):List D:=match opd E F x with
 | some (fn _ cs)=>cs
 | _=>[]
def argD (E:Env) (F:Fr) (c:Operand):Arg->Option D
 | .opn x=>opd E F x
 | .cap j=>(capsOf E F c)[j]?
def passMoves (E:Env) (f:Nat):Nat->Fr->List Arg->Option (List (Option D)×Fr)
 | _,F,[]=>some ([],F)
 | i,F,a::ags=>match E.mode f i,a with
  | .move,.opn x=>match takeOp E F x with
   | some (d,F1)=>match passMoves E f (i+1) F1 ags with
    | some (ds,F2)=>some (some d::ds,F2)
    | none=>none
   | none=>none
  | .move,.cap _=>none
  | _,_=>match passMoves E f (i+1) F ags with
   | some (ds,F2)=>some (none::ds,F2)
   | none=>none
def lendAt:Option D->Option (Option (Nat×Path))->Option (Option (Nat×Path))
 | some (alias s ps),some none=>some (some (s,ps))
 | _,_=>none
def lentFrom (E:Env) (f:Nat) (F:Fr) (c:Operand):Nat->List Arg->Option (Option (Nat×Path))
 | _,[]=>some none
 | i,a::ags=>match E.mode f i with
  | .inout=>lendAt (argD E F c a) (lentFrom E f F c (i+1) ags)
  | _=>lentFrom E f F c (i+1) ags
def restOne:Option D->Mode->Option D->Option D->Option D
 | some d,_,_,_=>some d
 | none,.inout,l,_=>l
 | none,.snap,_,s=>s
 | none,.move,_,_=>none
def passRest (E:Env) (f:Nat) (F F2:Fr) (c:Operand) (l:Option D):Nat->List Arg->List (Option D)->Option (List D)
 | _,[],[]=>some []
 | i,a::ags,m::ms=>match restOne m (E.mode f i) l ((argD E F c a).bind (snapD F2)),passRest E f F F2 c l (i+1) ags ms with
  | some d,some ds=>some (d::ds)
  | _,_=>none
 | _,_,_=>none
def snapSrcs (E:Env) (f:Nat) (F:Fr) (c:Operand):Nat->List Arg->List D
 | _,[]=>[]
 | i,a::ags=>(match E.mode f i with
  | .snap=>(argD E F c a).getD D.undef
  | _=>D.undef)::snapSrcs E f F c (i+1) ags
def frzAll (F:Fr):List D->Option Fr
 | []=>some F
 | d::ds=>match frzD F d with
  | some F'=>frzAll F' ds
  | none=>none
def holeC (F:Fr):Option (Nat×Path)->Option (Option D×Fr)
 | none=>some (none,F)
 | some (s,ps)=>match getAt F s ps with
  | some d=>if d.ex1 then (setAt F s ps D.undef).map fun F'=>(some d,F') else none
  | none=>none
def giveBack (F:Fr):Option (Nat×Path)->List D->Option Fr
 | none,[]=>some F
 | some (s,q),[c]=>if c.node1 then (setAt F s q c).map fun F'=>killB F' s q else none
 | _,_=>none
def argsOf (xs:List Operand) (n:Nat):List Arg:=xs.map .opn++(List.range n).map .cap
def callC (E:Env) (call:Nat->List D->Option (D×List D)) (F:Fr) (f:Nat) (c:Operand) (args:List Arg):Option (D×Fr):=
 match passMoves E f 0 F args with
 | none=>none
 | some (ms,F1)=>match lentFrom E f F1 c 0 args with
  | none=>none
  | some l=>match holeC F1 l with
   | none=>none
   | some (ld,F2)=>match passRest E f F1 F2 c ld 0 args ms with
    | none=>none
    | some ds=>match call f ds with
     | none=>none
     | some (r,outs)=>
      match (if r.flatR&&outs.all flat then some F1 else frzAll F1 (snapSrcs E f F1 c 0 args)) with
      | none=>none
      | some F3=>(giveBack F3 l outs).map fun F4=>(r,F4)
def keepable (V:List Nat) (dst:Option Nat) (s:Nat):Bool:=V.contains s&&dst != some s
def assignC (E:Env) (f:Nat) (V:List Nat) (F:Fr) (dst:Option Nat) (x:Operand):Option Fr:=match x with
 | .tmp t=>match get F t with
  | alias s ps=>if keepable V dst s&&!(E.eager f (dst.getD 0)) then some (fin F dst (alias s ps))
   else (takeAt F s ps).map fun r=>fin r.2 dst r.1
  | sub s ps a b=>if keepable V dst s&&!(E.eager f (dst.getD 0)) then some (fin F dst (sub s ps a b))
   else (takeSub F s ps a b).map fun r=>fin r.2 dst r.1
  | place s ps i o=>if keepable V dst s then some (fin F dst (place s ps i o)) else none
  | fn g cs=>some (fin F dst (fn g cs))
  | d=>if d.excl&&V.contains t then some (fin F dst (view t [] d))
   else (takeOp E F (.tmp t)).map fun r=>fin r.2 dst r.1
 | x=>(takeOp E F x).map fun r=>fin r.2 dst r.1
def wide (k:Nat) (es:List (List D)):Bool:=match es with
 | c::_=>c.length == k
 | []=>true
def sliceD (E:Env) (F:Fr) (t:Nat) (x:D) (lo hi:Option Nat):Option D:=match x with
 | lit (.string s)=>match E.P.underlying t with
  | some .string=>if lo.getD 0<=hi.getD s.size/\hi.getD s.size<=s.size then some (lit (.string (s.extract (lo.getD 0) (hi.getD s.size)))) else none
  | _=>none
 | sl es=>match sliceT E.P t with
  | some e=>if lo.getD 0<=hi.getD es.length/\hi.getD es.length<=es.length/\wide (sizeT E.P e) es/\0<sizeT E.P e then some (sl ((es.drop (lo.getD 0)).take (hi.getD es.length-lo.getD 0))) else none
  | none=>none
 | alias s ps=>match sliceT E.P t,elemsOf F (alias s ps) with
  | some e,some es=>if lo.getD 0<=hi.getD es.length/\hi.getD es.length<=es.length/\wide (sizeT E.P e) es/\0<sizeT E.P e then some (sub s ps (lo.getD 0) (hi.getD es.length-lo.getD 0)) else none
  | _,_=>none
 | sub s ps off len=>match sliceT E.P t,elemsOf F (alias s ps) with
  | some e,some es=>if lo.getD 0<=hi.getD len/\hi.getD len<=len/\wide (sizeT E.P e) es/\0<sizeT E.P e then some (sub s ps (off+lo.getD 0) (hi.getD len-lo.getD 0)) else none
  | _,_=>none
 | _=>none
def optNat (E:Env) (F:Fr):Option Operand->Option (Option Nat)
 | none=>some none
 | some x=>match opd E F x with
  | some d=>(asNat d).map some
  | none=>none
def bytesD (s:ByteArray):List (List D):=s.data.toList.map fun c=>[lit (.int .u8 c.toNat)]
def byteOfD:List D->Option UInt8
 | [lit (.int .u8 n)]=>if 0<=n/\n<256 then some (UInt8.ofNat n.toNat) else none
 | _=>none
def bytesOfD:List (List D)->Option (List UInt8)
 | []=>some []
 | c::cs=>match byteOfD c,bytesOfD cs with
  | some b,some bs=>some (b::bs)
  | _,_=>none
def convertD (E:Env) (F:Fr) (s t:Nat) (x:D):Option D:=match E.P.underlying s,E.P.underlying t,x with
 | some (.int _),some (.int k),lit (.int _ n)=>some (lit (.int k (k.wrap n)))
 | some (.int _),some .string,lit (.int _ n)=>some (lit (.string (Utf8.encode n)))
 | some .string,some .string,lit (.string b)=>some (lit (.string b))
 | some .string,some (.slice e),lit (.string b)=>match E.P.underlying e with
  | some (.int .u8)=>if b.size<=9223372036854775807 then some (sl (bytesD b)) else none
  | _=>none
 | some (.slice e),some .string,d=>match E.P.underlying e,elemsOf F d with
  | some (.int .u8),some es=>(bytesOfD es).map fun l=>lit (.string ⟨l.toArray⟩)
  | _,_=>none
 | _,_,_=>none
def newElems (E:Env) (F:Fr) (y:Operand):Option (List (List D)×Fr):=match opd E F y with
 | some (lit (.string s))=>some (bytesD s,F)
 | some (sl es)=>some (es,F)
 | some (alias s ps)=>match getAt F s ps with
  | some (sl es)=>some (es,F)
  | some (own es)=>
   if es.any fun c=>c.any ex1 then
    match y with
    | .tmp t=>match get F t with
     | own es=>some (es,kill (put0 F t D.undef) t [])
     | _=>none
    | _=>none
   else some (es,F)
  | _=>none
 | some (sub s ps off len)=>match elemsOf F (sub s ps off len) with
  | some es=>if es.any fun c=>c.any ex1 then none else some (es,F)
  | none=>none
 | some (own es)=>some (es,F)
 | _=>none
def appendC (E:Env) (F:Fr) (t:Nat) (dst:Option Nat) (x y:Operand):Option Fr:=match sliceT E.P t with
 | none=>none
 | some e=>match zeroT E.P e with
  | none=>none
  | some z=>match takeOp E F x with
   | some (own es,F1)=>match newElems E F1 y with
    | some (new,F2)=>
     if (es.length+new.length)*bytesT E.P e<=140737488355328/\es.length+new.length<=9223372036854775807/\z.cells.length=sizeT E.P e/\0<sizeT E.P e/\(es.all fun c=>c.length == sizeT E.P e)=true/\(new.all fun c=>c.length == sizeT E.P e)=true then
      some (fin F2 dst (own (es++new)))
     else none
    | none=>none
   | _=>none
def partD (E:Env) (t:Nat) (cs:List D) (off:Nat):Option D:=
 if (E.P.underlying t).isSome/\off+sizeT E.P t<=cs.length then ofCells (isAggT E.P t) ((cs.drop off).take (sizeT E.P t)) else none
def intOf2 (op:Int->Int->Int):List D->Option D
 | [lit (.int k a),lit (.int k' b)]=>if k=k' then some (lit (.int k (op a b))) else none
 | _=>none
def cellBeq:Value->Value->Bool
 | .int k m,.int k' n=>k == k'&&m == n
 | .string m,.string n=>m == n
 | _,_=>false
def keyBeq:Value->Value->Bool
 | .int k a,.int k' b=>k == k'&&a == b
 | .string a,.string b=>a == b
 | .agg a,.agg b=>a.size == b.size&&(a.toList.zip b.toList).all fun x=>cellBeq x.1 x.2
 | _,_=>false
def litsOf:List D->Option (List Value)
 | []=>some []
 | lit v::r=>(litsOf r).map (v::·)
 | _::_=>none
def keyOf:D->Option Value
 | lit v=>some v
 | agg cs=>(litsOf cs).map fun l=>.agg l.toArray
 | _=>none
def look (k:Value):List (Value×D)->Option D
 | []=>none
 | (k',d)::r=>if keyBeq k k' then some d else look k r
def upd (k:Value) (d:D):List (Value×D)->List (Value×D)
 | []=>[(k,d)]
 | (k',d')::r=>if keyBeq k k' then (k',d)::r else (k',d')::upd k d r
def intOfKind (q:IntKind):Value->Bool
 | .int q' _=>q' == q
 | _=>false
def keyT (P:Program) (k:Nat):Value->Bool
 | .int q _=>match P.underlying k with
  | some (.int q')=>q == q'
  | _=>false
 | .string _=>match P.underlying k with
  | some .string=>true
  | _=>false
 | .agg cs=>match P.underlying k with
  | some (.array n e)=>match P.underlying e with
   | some (.int q)=>cs.size == n&&sizeT P e == 1&&cs.toList.all (intOfKind q)
   | _=>false
  | _=>false
 | _=>false
def keysT (P:Program) (k:Nat) (es:List (Value×D)):Bool:=es.all fun x=>keyT P k x.1
def lookupD (E:Env) (F:Fr) (t:Nat) (x k:D) (ok:Bool):Option D:=match mapT E.P t,x,keyOf k with
 | some (kt,e),alias s ps,some kv=>match getAt F s ps,zeroT E.P e with
  | some (map es),some z=>if keyT E.P kt kv&&keysT E.P kt es then match look kv es with
   | some d=>some (if ok then tup [d,lit (.bool true)] else d)
   | none=>if z.excl then none else some (if ok then tup [z,lit (.bool false)] else z)
   else none
  | _,_=>none
 | _,_,_=>none
def mapUpdateC (E:Env) (F:Fr) (t:Nat) (m k v:Operand):Option Fr:=match mapT E.P t,opd E F m,opd E F k,opd E F v with
 | some (kt,_),some (alias s ps),some kd,some d=>match getAt F s ps,keyOf kd,snapD F d with
  | some (map es),some kv,some d'=>if d'.flat&&keyT E.P kt kv&&keysT E.P kt es then setAt F s ps (map (upd kv d' es)) else none
  | _,_,_=>none
 | _,_,_,_=>none
def builtinC (E:Env) (F:Fr) (o:Oper) (b:Builtin) (xs:List Operand) (ts:List Nat):Option Fr:=match b,xs,ts with
 | .len,[x],t::_=>match opd E F x with
  | some d=>(lenD E F t d).map (fin F o.dst)
  | none=>none
 | .append,[x,y],[t,u]=>if rowT E.P u then appendC E F t o.dst x y else none
 | .max,[x,y],_=>match opd E F x,opd E F y with
  | some a,some b=>(intOf2 (fun a b=>if b > a then b else a) [a,b]).map (fin F o.dst)
  | _,_=>none
 | .min,[x,y],_=>match opd E F x,opd E F y with
  | some a,some b=>(intOf2 (fun a b=>if b<a then b else a) [a,b]).map (fin F o.dst)
  | _,_=>none
 | .clear,[x],t::_=>match opd E F x,sliceT E.P t with
  | some (sub s ps off len),some e=>match getAt F s ps,zeroT E.P e with
   | some (own es),some z=>
    if off+len<=es.length/\z.cells.length=sizeT E.P e/\0<sizeT E.P e/\(es.all fun c=>c.length == sizeT E.P e)=true then
     (setAt F s ps (own (es.take off++List.replicate len z.cells++es.drop (off+len)))).map fun F'=>fin (killB F' s ps) o.dst (tup [])
    else none
   | _,_=>none
  | _,_=>none
 | _,_,_=>none
def easy1:D->Bool
 | lit _ | sl _ | ref _=>true
 | _=>false
def easyD:D->Bool
 | agg cs=>cs.all easy1
 | d=>easy1 d
def moveC (E:Env) (F:Fr) (dst:Option Nat) (x:Operand):Option Fr:=match x with
 | .tmp t=>match get F t with
  | tup ds=>if ds.all easyD then some (fin F dst (tup ds)) else some (fin (kill (put0 F t D.undef) t []) dst (tup ds))
  | _=>(opd E F x).map (fin F dst)
 | _=>(opd E F x).map (fin F dst)
def coldD (b:Bool) (d:D):Option D:=if b then match d with
  | tup ds=>(freezeCs ds).map tup
  | d=>d.freeze
 else some d
def capOK:D->Bool
 | lit _ | sl _ | ref _ | alias .. | sub .. | place ..=>true
 | fn _ cs=>!cs.any bad1
 | _=>false
def capsD (E:Env) (F:Fr):List Operand->Option (List D)
 | []=>some []
 | x::xs=>match opd E F x,capsD E F xs with
  | some d,some ds=>if capOK d then some (d::ds) else none
  | _,_=>none
def bldT (E:Env) (t:Nat):Option Nat:=match E.bld t,(E.P.info? t).bind (·.zero) with
 | some e,some (.agg cs)=>match cs.toList with
  | [.pointer none,.slice none 0 0]=>some e
  | _=>none
 | _,_=>none
def opC (E:Env) (f:Nat) (V:List Nat) (call:Nat->List D->Option (D×List D)) (F:Fr) (o:Oper):Option Fr:=match o.op with
 | .move x=>moveC E F o.dst x
 | .assign x=>assignC E f V F o.dst x
 | .pick c a b=>match opd E F c with
  | some (lit (.bool t))=>(opd E F (if t then a else b)).map (fin F o.dst)
  | _=>none
 | .alloc t=>match bldT E t with
  | some e=>some (fin F o.dst (bld t e []))
  | none=>(zeroT E.P t).map fun z=>fin F o.dst (box z.cells)
 | .box t x=>(takeOp E F x).bind fun r=>if r.1.cells.length=sizeT E.P t then some (fin r.2 o.dst (box r.1.cells)) else none
 | .build t ps=>match zeroT E.P t,takeParts E F ps.toList with
  | some z,some (ds,F1)=>match E.P.underlying t with
   | some (.array _ e)=>if (E.P.info? e).isSome then (fillD (fun i=>some (i*sizeT E.P e,sizeT E.P e)) z.cells ds).map fun cs=>fin F1 o.dst (agg cs) else none
   | some (.struct fs)=>if fs.toList.all fun f=>(E.P.info? f.type).isSome then (fillD (fun i=>(fs[i]?).map fun fd=>(fd.offset,sizeT E.P fd.type)) z.cells ds).map fun cs=>fin F1 o.dst (agg cs) else none
   | _=>none
  | _,_=>none
 | .buildSlice t n ps=>match sliceT E.P t with
  | none=>none
  | some e=>match zeroT E.P e,takeParts E F ps.toList with
   | some z,some (ds,F1)=>
    if n*sizeT E.P e<=16777216/\z.cells.length=sizeT E.P e/\0<sizeT E.P e then
     (setElems (sizeT E.P e) (List.replicate n z.cells) ds).map fun es=>fin F1 o.dst (own es)
    else none
   | _,_=>none
 | .load t x=>match opd E F x with
  | some d=>(loadD E F t d).map (fin F o.dst)
  | none=>none
 | .store t x y=>if (E.P.info? t).isSome then match takeOp E F y with
  | some (d,F1)=>match opd E F1 x with
   | some p=>(storeD E F1 t p d).map fun F2=>fin F2 o.dst (tup [])
   | none=>none
  | none=>none
  else none
 | .nilCheck x=>match opd E F x with
  | some (alias s ps)=>match getAt F s ps with
   | some (box _)=>some (fin F o.dst (alias s ps))
   | some (ref _)=>some (fin F o.dst (alias s ps))
   | _=>none
  | some (place s ps i c)=>some (fin F o.dst (place s ps i c))
  | some (ref cs)=>some (fin F o.dst (ref cs))
  | _=>none
 | .binOp op t x y _=>match opd E F x,opd E F y with
  | some a,some b=>(binD E op t a b).map (fin F o.dst)
  | _,_=>none
 | .unOp op _ x=>match opd E F x with
  | some (lit v)=>(unV op v).map fun u=>fin F o.dst (lit u)
  | _=>none
 | .convert s t x=>match opd E F x with
  | some d=>(convertD E F s t d).map (fin F o.dst)
  | none=>none
 | .makeFunc (.func g) first caps=>if first.isEmpty then (capsD E F caps.toList).map fun cs=>fin F o.dst (fn g cs) else none
 | .makeMap _ none=>some (fin F o.dst (map []))
 | .makeSlice t l c=>match opd E F l,opd E F c,sliceT E.P t with
  | some dl,some dc,some e=>match asNat dl,asNat dc,zeroT E.P e with
   | some n,some m,some z=>
    if n=m/\m*bytesT E.P e<=281474976710656/\m<=9223372036854775807/\z.cells.length=sizeT E.P e/\0<sizeT E.P e then some (fin F o.dst (own (List.replicate n z.cells))) else none
   | _,_,_=>none
  | _,_,_=>none
 | .slice t x lo hi none=>match opd E F x,optNat E F lo,optNat E F hi with
  | some d,some l,some h=>(sliceD E F t d l h).map (fin F o.dst)
  | _,_,_=>none
 | .fieldAddr t x j=>match fieldT E.P t j,(opd E F x).bind (ptrOf F) with
  | some fd,some (.imm cs)=>if 0<sizeT E.P fd.type then some (fin F o.dst (ref (cs.drop fd.offset))) else none
  | some fd,some (.loc s ps i c)=>if 0<sizeT E.P fd.type then some (fin F o.dst (place s ps i (c+fd.offset))) else none
  | _,_=>none
 | .field t x j=>match fieldT E.P t j,opd E F x with
  | some fd,some (agg cs)=>(partD E fd.type cs fd.offset).map (fin F o.dst)
  | _,_=>none
 | .indexAddr t x ix=>match opd E F x,opd E F ix with
  | some d,some i=>(indexAddrD E F t d i).map (fin F o.dst)
  | _,_=>none
 | .index t x ix=>match opd E F x,(opd E F ix).bind asNat with
  | some (lit (.string s)),some i=>match E.P.underlying t with
   | some .string=>(s[i]?).map fun b=>fin F o.dst (lit (.int .u8 b.toNat))
   | _=>none
  | some (agg cs),some i=>match arrayT E.P t with
   | some (n,e)=>if i<n then (partD E e cs (i*sizeT E.P e)).map (fin F o.dst) else none
   | none=>none
  | _,_=>none
 | .lookup t x k ok=>match opd E F x,opd E F k with
  | some d,some kd=>(lookupD E F t d kd ok).map (fin F o.dst)
  | _,_=>none
 | .mapUpdate t m k v=>(mapUpdateC E F t m k v).map fun F'=>fin F' o.dst (tup [])
 | .insert t m k v=>(mapUpdateC E F t m k v).map fun F'=>fin F' o.dst (tup [])
 | .extract (.tmp t) i=>match get F t with
  | tup ds=>(ds[i]?).map fun d=>fin F o.dst (view t [(0,i)] d)
  | _=>none
 | .call c=>match c.callee with
  | .builtin b=>builtinC E F o b c.args.toList c.argTypes.toList
  | .value x=>match opd E F x with
   | some (fn g caps)=>(callC E call F g x (argsOf c.args.toList caps.length)).bind fun r=>(coldD (E.eager f (o.dst.getD 0)) r.1).map (fin r.2 o.dst)
   | _=>none
  | .invoke ..=>none
 | _=>none
def wantedD (ops:Array Oper) (F:Fr) (o:Oper):Option Bool:=match o.guard with
 | none=>some true
 | some (j,b)=>match (ops[j]?).bind (·.dst) with
  | some t=>match get F t with
   | lit (.bool b')=>some (b' == b)
   | tup _=>some false
   | lit _=>some false
   | _=>none
  | none=>some false
def opsC (E:Env) (f:Nat) (V:List Nat) (call:Nat->List D->Option (D×List D)) (ops:Array Oper):List Nat->Fr->Option Fr
 | [],F=>some F
 | i::r,F=>match ops[i]? with
  | none=>opsC E f V call ops r F
  | some o=>match wantedD ops F o with
   | some true=>match opC E f V call F o with
    | some F'=>opsC E f V call ops r F'
    | none=>none
   | some false=>opsC E f V call ops r (fin F o.dst (tup []))
   | none=>none
def outside (V:List Nat) (_:Bool) (s:Nat) (_:Path):Bool:=!V.contains s
def norm (V:List Nat) (F:Fr):Fr:=V.map fun s=>(s,D.kill2 (outside V) (get F s))
def iter:Nat->(Fr->Option (Ex×Fr))->Fr->Option (Ex×Fr)
 | 0,_,_=>none
 | n+1,b,F=>match b F with
  | some (.normal,F')=>iter n b F'
  | r=>r
end Go.Own
