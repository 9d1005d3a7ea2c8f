/- An interpreter of function bodies, sound. No conditions. -/
import Derived.Calls
import Derived.Laws.Sem
set_option linter.all false
open List renaming replicate->aA
namespace Go.aS
abbrev aV:=IntKind.wrap .i64
theorem Jy(n:Int):aV n=IntKind.wrap .i64 n:=rfl
abbrev ay:=List Int
abbrev aL:=List (List Int)
theorem aE{O:Type _}(a b:O):(some a=some b)=(a=b):=Option.some.injEq a b
abbrev Path:=List (Nat×Nat)
inductive D where
 |undef
 |lit (v:Value)
 |sl (es:List (List D))
 |own (es:List (List D))
 |agg (cs:List D)
 |box (cs:List D)
 |ref (cs:List D)
 |map (es:List (Value×D))
 |bld (t e:Nat) (l:List UInt8)
 |fn (f:Nat) (ey:List D)
 |bt (az:List D)
 |alias (s:Nat) (ps:Path)
 |sub (s:Nat) (ps:Path) (off len:Nat)
 |place (s:Nat) (ps:Path) (i o:Nat)
 deriving Inhabited
namespace D
def cells:D->List D
 |agg cs=>cs
 |d=>[d]
def elem:D->Nat->Option (List D)
 |own es,i=>es[i]?
 |box cs,0=>some cs
 |agg cs,0=>some cs
 |bt cs,0=>some cs
 |_,_=>none
def df:D->Nat->List D->Option D
 |own es,i,cs=>some (own (es.set i cs))
 |box _,0,cs=>some (box cs)
 |agg _,0,cs=>some (agg cs)
 |bt _,0,cs=>some (bt cs)
 |_,_,_=>none
def bw:D->Path->Option D
 |d,[]=>some d
 |d,(i,o)::ps=>match d.elem i with
  |some cs=>match cs[o]? with
   |some c=>bw c ps
   |none=>none
  |none=>none
def cy:D->Path->D->Option D
 |_,[],x=>some x
 |d,(i,o)::ps,x=>match d.elem i with
  |some cs=>match cs[o]? with
   |some c=>match cy c ps x with
    |some c'=>d.df i (cs.set o c')
    |none=>none
   |none=>none
  |none=>none
def dC:D->Bool
 |own _|box _|map _|bld ..=>true
 |_=>false
def node1:D->Bool
 |own _|box _|map _|bld ..|sl _|ref _=>true
 |_=>false
def aho:D->Bool
 |own _|box _|map _|bld ..=>true
 |agg cs=>cs.any dC
 |_=>false
def DT:D->Bool
 |own _|box _|map _|bld ..=>true
 |agg cs=>cs.any dC
 |bt az=>az.any aho
 |_=>false
def tz:D->Bool
 |alias ..|sub ..|place ..=>true
 |_=>false
def pre:Path->Path->Bool
 |[],_=>true
 |(a,b)::p,(c,d)::q=>a==c&&b==d&&pre p q
 |_,_=>false
def dj(dead:Bool->Nat->Path->Bool):D->D
 |alias s ps=>if dead true s ps then undef else alias s ps
 |sub s ps a b=>if dead false s ps then undef else sub s ps a b
 |place s ps i o=>if dead false s ps then undef else place s ps i o
 |d=>d
def dN(dead:Bool->Nat->Path->Bool):D->D
 |agg cs=>agg (cs.map (dj dead))
 |fn f cs=>fn f (cs.map (dj dead))
 |d=>dj dead d
def h8(s:Nat)(q:Path)(_:Bool)(bk:Nat)(p:Path):Bool:=bk == s&&pre q p
def j7(s:Nat)(q:Path)(b:Bool)(bk:Nat)(p:Path):Bool:=bk == s&&pre q p&&!(b&&p.length==q.length)
def HK(i o n:Nat):Path->Bool
 |(kA,c)::_=>kA == i&&decide (o<=c)&&decide (c<o+n)
 |[]=>false
def rH(s:Nat)(q:Path)(i o n:Nat)(_:Bool)(bk:Nat)(p:Path):Bool:=bk == s&&pre q p&&HK i o n (p.drop q.length)
def iY(s:Nat)(ps:Path):D->D
 |own _|box _|map _|bld ..=>alias s ps
 |d=>d
def xK(s:Nat)(ps:Path)(i:Nat):Nat->List D->List D
 |_,[]=>[]
 |o,c::cs=>iY s (ps++[(i,o)]) c::xK s ps i (o+1) cs
def view(s:Nat)(ps:Path):D->D
 |agg cs=>agg (xK s ps 0 0 cs)
 |bt _=>undef
 |d=>iY s ps d
def se(isAgg:Bool)(cs:List D):Option D:=
 if isAgg then some (agg cs)else match cs with|[c]=>some c|_=>none
mutual
def freeze:D->Option D
 |lit v=>some (lit v)
 |sl es=>some (sl es)
 |ref cs=>some (ref cs)
 |own es=>(mB es).map sl
 |box cs=>(hA cs).map ref
 |agg cs=>(hA cs).map agg
 |fn f cs=>(hA cs).map (fn f)
 |_=>none
def hA:List D->Option (List D)
 |[]=>some []
 |c::cs=>match freeze c,hA cs with
  |some c',some b8=>some (c'::b8)
  |_,_=>none
def mB:List (List D)->Option (List (List D))
 |[]=>some []
 |c::cs=>match hA c,mB cs with
  |some c',some b8=>some (c'::b8)
  |_,_=>none
end
mutual
def flat:D->Bool
 |lit _=>true
 |agg cs=>lV cs
 |own es=>AR es
 |bt cs=>lV cs
 |_=>false
def lV:List D->Bool
 |[]=>true
 |c::cs=>flat c&&lV cs
def AR:List (List D)->Bool
 |[]=>true
 |c::cs=>lV c&&AR cs
end
def ln:D->Bool
 |sl []=>true
 |d=>d.flat
end D
open D
abbrev Fr:=List (Nat×D)
def get:Fr->Nat->D
 |[],_=>D.undef
 |(k,d)::r,s=>if k=s then d else get r s
def cf:Fr->Nat->D->Fr
 |[],s,d=>[(s,d)]
 |(k,e)::r,s,d=>if k=s then(s,d)::r else(k,e)::cf r s d
def jM(dead:Bool->Nat->Path->Bool)(F:Fr):Fr:=F.map λx=>(x.1,D.dN dead x.2)
def kill(F:Fr)(s:Nat)(q:Path):Fr:=jM (h8 s q) F
def np(F:Fr)(s:Nat)(q:Path):Fr:=jM (j7 s q) F
def D.quiet:D->Bool
 |lit _=>true
 |undef=>true
 |_=>false
def put(F:Fr)(s:Nat)(d:D):Fr:=
 if(get F s).quiet then cf F s d else kill (cf F s d) s []
def fin(F:Fr)(dst:Option Nat)(d:D):Fr:=match dst with
 |some s=>put F s d
 |none=>F
def b6(F:Fr)(s:Nat)(ps:Path):Option D:=(get F s).bw ps
def setAt(F:Fr)(s:Nat)(ps:Path)(d:D):Option Fr:=((get F s).cy ps d).map (cf F s)
def O4:Value->Bool
 | .slice none 0 0=>true
 |_=>false
def uQ(v:Value):D:=if O4 v then own []else lit v
def uR:Value->D
 | .agg cs=>agg (cs.toList.map uQ)
 |v=>uQ v
def rG:Value->Bool
 | .agg cs=>cs.toList.all Value.oneCell'
 |v=>v.oneCell'
inductive Mode|snap|move|eF
 deriving DecidableEq
inductive Ask where
 |ret (x:Option (D×List D))
 |call (f:Nat) (az:List D) (k:D×List D->Ask)
def fz(c:Nat->List D->Option (D×List D)):Ask->Option (D×List D)
 | .ret x=>x
 | .call f az k=>match c f az with
  |some r=>fz c (k r)
  |none=>none
structure Env where
 P:Program
 mode:Nat->Nat->Mode
 kG:Nat->Option (List D->Option (D×List D))
 vars:Nat->List Nat
 eager:Nat->Nat->Bool
 bld:Nat->Option Nat:=λ_=>none
 H2:(Nat->Option Obj)->Prop:=λ_=>True
 EP:Nat->Nat->Nat->Option (List Nat):=λ_ _ _=>none
 AL:Nat->Nat->Nat->List (Nat×Nat):=λ_ _ _=>[]
 hand:Nat->Option (List D->Ask):=λ_=>none
def iH(i:Nat):Nat:=1000000+i
section types
variable(P:Program)
def h0(t:Nat):Bool:=match P.underlying t with
 |some (.struct _)|some (.array _ _)=>true
 |_=>false
def aY(t:Nat):Nat:=((P.info? t).map (·.size)).getD 0
def j5(t:Nat):Nat:=((P.info? t).map (·.bytes)).getD 0
def eD(t:Nat):Option Nat:=match P.underlying t with
 |some (.slice e)=>some e
 |_=>none
def nw(t:Nat):Bool:=match P.underlying t with
 |some (.slice _)=>true
 |some .string=>true
 |_=>false
def yv(t:Nat):Option (Nat×Nat):=match P.underlying t with
 |some (.array n e)=>some (n,e)
 |_=>none
def Bx(t:Nat):Option (Nat×Nat):=match P.underlying t with
 |some (.map k e)=>some (k,e)
 |_=>none
def n1(t j:Nat):Option Field:=match P.underlying t with
 |some (.struct fs)=>fs[j]?
 |_=>none
def fC(t:Nat):Option D:=match(P.info? t).bind (·.zero)with
 |some v=>if rG v then some (uR v)else none
 |none=>none
end types
def aZ(E:Env)(F:Fr):Operand->Option D
 | .tmp t=>some (view t [] (get F t))
 | .const v=>if rG v then some (uR v)else none
 | .func f=>some (fn f [])
 | .global _=>none
def mh(F:Fr)(s:Nat)(ps:Path):Option (D×Fr):=match b6 F s ps with
 |some c=>
  if c.dC then match setAt F s ps D.undef with
   |some aD=>some (c,kill aD s ps)
   |none=>none
  else match c with
   |sl es=>some (sl es,F)
   |ref cs=>some (ref cs,F)
   |_=>none
 |none=>none
def zy(F:Fr)(s:Nat)(ps:Path)(off len:Nat):Option (D×Fr):=match b6 F s ps with
 |some (own es)=>if len=0 then some (sl [],F)
  else if off=0/\len<=es.length then match setAt F s ps D.undef with
   |some aD=>some (own (es.take len),kill aD s ps)
   |none=>none
  else none
 |some (sl es)=>if off+len<=es.length then some (sl ((es.drop off).take len),F)else none
 |_=>none
def kb(F:Fr):D->Option (D×Fr)
 |alias s ps=>mh F s ps
 |sub s ps a b=>zy F s ps a b
 |lit v=>some (lit v,F)
 |sl es=>some (sl es,F)
 |ref cs=>some (ref cs,F)
 |fn f cs=>some (fn f cs,F)
 | .undef=>some (.undef,F)
 |_=>none
def tL(F:Fr)(t o:Nat):Nat->Option (List D×Fr)
 |0=>some ([],F)
 |k+1=>match get F t with
  |agg cs=>match cs[o]? with
   |some c=>match kb F c with
    |some (c',aX)=>match tL aX t (o+1) k with
     |some (b8,bN)=>some (c'::b8,bN)
     |none=>none
    |none=>none
   |none=>none
  |_=>none
def uK:D->Bool
 |alias ..|sub ..|place ..| .undef=>true
 |_=>false
def e9(F:Fr)(t:Nat):D->Option (D×Fr)
 |agg cs=>
  if cs.any dC then
   if cs.any tz then none else some (agg cs,kill (cf F t D.undef) t [])
  else match tL F t 0 cs.length with
   |some (b8,aD)=>some (agg b8,aD)
   |none=>none
 |fn f cs=>if cs.any uK then none else some (fn f cs,F)
 |own es=>some (own es,kill (cf F t D.undef) t [])
 |box es=>some (box es,kill (cf F t D.undef) t [])
 |map es=>some (map es,kill (cf F t D.undef) t [])
 |bld bz e l=>some (bld bz e l,kill (cf F t D.undef) t [])
 |alias s ps=>mh F s ps
 |sub s ps a b=>zy F s ps a b
 |lit v=>some (lit v,F)
 |sl es=>some (sl es,F)
 |ref cs=>some (ref cs,F)
 |_=>none
def c9(E:Env)(F:Fr):Operand->Option (D×Fr)
 | .tmp t=>e9 F t (get F t)
 | .const v=>if rG v then some (uR v,F)else none
 | .func f=>some (fn f [],F)
 | .global _=>none
inductive Ptr|nj (cs:List D)|loc (s:Nat) (ps:Path) (i o:Nat)
def gB(F:Fr):D->Option Ptr
 |ref cs=>some (.nj cs)
 |place s ps i o=>some (.loc s ps i o)
 |alias s ps=>match b6 F s ps with
  |some (box _)=>some (.loc s ps 0 0)
  |some (ref cs)=>some (.nj cs)
  |_=>none
 |_=>none
def oa(E:Env)(F:Fr)(t:Nat)(x:D):Option D:=if(E.P.underlying t).isNone then none else match gB F x with
 |some (.nj cs)=>if aY E.P t<=cs.length then se (h0 E.P t) (cs.take (aY E.P t))else none
 |some (.loc s ps i o)=>match b6 F s ps with
  |some eM=>match eM.elem i with
   |some ct=>if o+aY E.P t<=ct.length then se (h0 E.P t) (xK s ps i o ((ct.drop o).take (aY E.P t)))else none
   |none=>none
  |none=>none
 |none=>none
def xF(E:Env)(F:Fr)(t:Nat)(x y:D):Option Fr:=match gB F x with
 |some (.loc s ps i o)=>match b6 F s ps with
  |some eM=>match eM.elem i with
   |some ct=>
    if y.cells.length=aY E.P t/\o+aY E.P t<=ct.length then
     match eM.df i (ct.take o++y.cells++ct.drop (o+aY E.P t))with
     |some akW=>match setAt F s ps akW with
      |some aD=>some (if((ct.drop o).take (aY E.P t)).any node1 then jM (rH s ps i o (aY E.P t)) aD else aD)
      |none=>none
     |none=>none
    else none
   |none=>none
  |none=>none
 |_=>none
def asInt:D->Option Int
 |lit (.int _ n)=>some n
 |_=>none
def asNat(d:D):Option Nat:=match asInt d with
 |some n=>if 0<=n then some n.toNat else none
 |none=>none
def gU(F:Fr):D->Option (List (List D))
 |sl es=>some es
 |alias s ps=>match b6 F s ps with
  |some (own es)=>some es
  |some (sl es)=>some es
  |_=>none
 |sub s ps off len=>match b6 F s ps with
  |some (own es)=>if off+len<=es.length then some ((es.drop off).take len)else none
  |some (sl es)=>if off+len<=es.length then some ((es.drop off).take len)else none
  |_=>none
 |_=>none
def nm(E:Env)(F:Fr)(t:Nat)(x ix:D):Option D:=match asNat ix with
 |none=>none
 |some i=>match eD E.P t with
  |some e=>match x with
   |sl es=>match es[i]? with
    |some c=>if c.length=aY E.P e then some (ref c)else none
    |none=>none
   |alias s ps=>match b6 F s ps with
    |some (own es)=>match es[i]? with
     |some c=>if c.length=aY E.P e then some (place s ps i 0)else none
     |none=>none
    |some (sl es)=>match es[i]? with
     |some c=>if c.length=aY E.P e then some (ref c)else none
     |none=>none
    |_=>none
   |sub s ps off len=>if i<len then match b6 F s ps with
    |some (own es)=>match es[off+i]? with
     |some c=>if c.length=aY E.P e/\off+len<=es.length then some (place s ps (off+i) 0)else none
     |none=>none
    |some (sl es)=>match es[off+i]? with
     |some c=>if c.length=aY E.P e/\off+len<=es.length then some (ref c)else none
     |none=>none
    |_=>none
    else none
   |_=>none
  |none=>match yv E.P t with
   |some (n,e)=>if i<n then(if aY E.P e=0 then none else match gB F x with
     |some (.nj cs)=>some (ref (cs.drop (i*aY E.P e)))
     |some (.loc s ps k o)=>some (place s ps k (o+i*aY E.P e))
     |none=>none)
    else none
   |none=>none
def qu(op:BinOp):Value->Value->Option Value
 | .int k a,.int k' b=>
  match op with
  | .shl=>if b<0 then none else some (.int k (k.wrap (a*2^(min b.toNat k.bits))))
  | .shr=>if b<0 then none else some (.int k (a.fdiv (2^(min b.toNat k.bits))))
  |op=>if k≠k' then none else match op with
   | .add=>some (.int k (k.wrap (a+b)))
   | .sub=>some (.int k (k.wrap (a-b)))
   | .mul=>some (.int k (k.wrap (a*b)))
   | .quo=>if b=0 then none else some (.int k (k.wrap (a.tdiv b)))
   | .rem=>if b=0 then none else some (.int k (a.tmod b))
   | .and=>some (.int k (k.wrap (BitVec.ofInt k.bits a &&& BitVec.ofInt k.bits b).toNat))
   | .or=>some (.int k (k.wrap (BitVec.ofInt k.bits a ||| BitVec.ofInt k.bits b).toNat))
   | .xor=>some (.int k (k.wrap (BitVec.ofInt k.bits a ^^^ BitVec.ofInt k.bits b).toNat))
   | .andNot=>some (.int k (k.wrap (BitVec.ofInt k.bits a &&& ~~~ BitVec.ofInt k.bits b).toNat))
   | .eql=>some (.bool (a==b))
   | .neq=>some (.bool (a != b))
   | .lss=>some (.bool (decide (a<b)))
   | .leq=>some (.bool (decide (a<=b)))
   | .gtr=>some (.bool (decide (a > b)))
   | .geq=>some (.bool (decide (a ≥ b)))
   |_=>none
 | .string a,.string b=>
  match op with
  | .add=>if a.size+b.size<=9223372036854775807 then some (.string (a++b))else none
  | .eql=>some (.bool (a.toList==b.toList))
  | .neq=>some (.bool !(a.toList==b.toList))
  | .lss=>some (.bool (Op.bytesLess a.toList b.toList))
  | .leq=>some (.bool (Op.bytesLess a.toList b.toList || a.toList==b.toList))
  | .gtr=>some (.bool !(Op.bytesLess a.toList b.toList || a.toList==b.toList))
  | .geq=>some (.bool !(Op.bytesLess a.toList b.toList))
  |_=>none
 |_,_=>none
def HR(P:Program)(xs fA:List D)(f:Field)(k:Option Bool):Option Bool:=
 if f.name = "_" then none else match P.underlying f.type, xs[f.offset]?, fA[f.offset]? with
  |some (.int _),some (lit (.int q a)),some (lit (.int q' b))=>if q=q' then(if a==b then k else some false)else none
  |some .bool,some (lit (.bool a)),some (lit (.bool b))=>if a==b then k else some false
  |some .string,some (lit (.string a)),some (lit (.string b))=>if a.toList==b.toList then k else some false
  |_,_,_=>none
def M0(P:Program)(xs fA:List D)(k:Option Bool):List Field->Option Bool
 |[]=>k
 |f::fs=>HR P xs fA f (M0 P xs fA k fs)
def XC(P:Program)(t:Nat):Option (List Field):=match P.underlying t with
 |some (.struct gs)=>some gs.toList
 |_=>none
def AP(P:Program)(xs fA:List D):List Field->Option Bool
 |[]=>some true
 |f::fs=>match XC P f.type with
  | some gs => if f.name = "_" || P.stoodInHeld f.type then none else M0 P ((xs.drop f.offset).take (aY P f.type)) ((fA.drop f.offset).take (aY P f.type)) (AP P xs fA fs) gs
  |none=>HR P xs fA f (AP P xs fA fs)
def qt(E:Env)(op:BinOp)(t:Nat):D->D->Option D
 |agg xs,agg fA=>match E.P.underlying t with
  |some (.struct fs)=>if E.P.stoodInHeld t || E.P.eqGuardType E.P.depth t then none else match op,AP E.P xs fA fs.toList with
   | .eql,some b=>some (lit (.bool b))
   | .neq,some b=>some (lit (.bool !b))
   |_,_=>none
  |_=>none
 |lit a,lit b=>match a,b with
  | .bool x,.bool y=>match op,E.P.underlying t with
   | .eql,some .bool=>some (lit (.bool (x==y)))
   | .neq,some .bool=>some (lit (.bool (x != y)))
   |_,_=>none
  |a,b=>(qu op a b).map lit
 |_,_=>none
def Jq(op:UnOp):Value->Option Value
 | .int k n=>match op with
  | .neg=>some (.int k (k.wrap (0-n)))
  | .xor=>some (.int k (k.wrap (BitVec.ofInt k.bits (if k.signed then -1 else k.max) ^^^ BitVec.ofInt k.bits n).toNat))
  |_=>none
 | .bool b=>match op with
  | .not=>some (.bool !b)
  |_=>none
 |_=>none
def vl(E:Env)(F:Fr)(t:Nat)(d:D):Option D:=match E.P.underlying t,d with
 |some .string,lit (.string s)=>some (lit (.int .i64 s.size))
 |some (.slice _),own []=>some (lit (.int .i64 0))
 |some (.slice _),d=>(gU F d).map λes=>lit (.int .i64 es.length)
 |some (.map _ _),alias s ps=>match b6 F s ps with
  |some (map es)=>some (lit (.int .i64 es.length))
  |_=>none
 |_,_=>none
def rL(place:Nat->Option (Nat×Nat))(cells:List D):List (Nat×D)->Option (List D)
 |[]=>some cells
 |(i,v)::r=>match place i with
  |some (off,size)=>
   if v.cells.length=size/\off+size<=cells.length then
    rL place (cells.take off++v.cells++cells.drop (off+size)) r
   else none
  |none=>none
def iL(E:Env)(F:Fr):List (Nat×Operand)->Option (List (Nat×D)×Fr)
 |[]=>some ([],F)
 |(i,x)::r=>match c9 E F x with
  |some (d,aX)=>match iL E aX r with
   |some (az,bN)=>some ((i,d)::az,bN)
   |none=>none
  |none=>none
def xE(size:Nat)(es:List (List D)):List (Nat×D)->Option (List (List D))
 |[]=>some es
 |(i,d)::r=>if d.cells.length=size/\i<es.length then xE size (es.set i d.cells) r else none
def kW(F:Fr)(s:Nat)(ps:Path):Option D:=match b6 F s ps with
 |some c=>c.freeze
 |none=>none
def fu(F:Fr):D->Option D
 |alias s ps=>kW F s ps
 |sub s ps off len=>match kW F s ps with
  |some (sl es)=>if off+len<=es.length then some (sl ((es.drop off).take len))else none
  |_=>none
 |place s ps i o=>match kW F s ps with
  |some (sl es)=>(es[i]?).map λcs=>ref (cs.drop o)
  |some (ref cs)=>if i=0 then some (ref (cs.drop o))else none
  |_=>none
 |d=>d.freeze
def jR(F:Fr):List D->Option (List D)
 |[]=>some []
 |c::cs=>match fu F c,jR F cs with
  |some c',some b8=>some (c'::b8)
  |_,_=>none
def eV(F:Fr):D->Option D
 |agg cs=>(jR F cs).map agg
 |fn f cs=>(jR F cs).map (fn f)
 |d=>fu F d
def kX(F:Fr)(s:Nat)(ps:Path):Option Fr:=match b6 F s ps with
 |some c=>
  if c.dC then match c.freeze with
   |some c'=>(setAt F s ps c').map λaD=>np aD s ps
   |none=>none
  else if c.node1 then some F else none
 |none=>none
def mC(F:Fr):D->Option Fr
 |alias s ps=>kX F s ps
 |sub s ps _ _=>kX F s ps
 |place ..=>none
 |_=>some F
def qD(F:Fr):List D->Option Fr
 |[]=>some F
 |c::cs=>match mC F c with
  |some aX=>qD aX cs
  |none=>none
def uW(F:Fr):D->Option Fr
 |agg cs=>qD F cs
 |fn _ cs=>qD F cs
 |d=>mC F d
inductive dU|normal|exit (id:Nat)|ret
inductive Arg|gK (x:Operand)|cap (j:Nat)
def HJ(E:Env)(F:Fr)(x:Operand):List D:=match aZ E F x with
 |some (fn _ cs)=>cs
 |_=>[]
def j4(E:Env)(F:Fr)(c:Operand):Arg->Option D
 | .gK x=>aZ E F x
 | .cap j=>(HJ E F c)[j]?
def kE(E:Env)(f:Nat):Nat->Fr->List Arg->Option (List (Option D)×Fr)
 |_,F,[]=>some ([],F)
 |i,F,a::hK=>match E.mode f i,a with
  | .move,.gK x=>match c9 E F x with
   |some (d,aX)=>match kE E f (i+1) aX hK with
    |some (az,bN)=>some (some d::az,bN)
    |none=>none
   |none=>none
  | .move,.cap _=>none
  |_,_=>match kE E f (i+1) F hK with
   |some (az,bN)=>some (none::az,bN)
   |none=>none
def r8:Option D->Option (Option (Nat×Path))->Option (Option (Nat×Path))
 |some (alias s ps),some none=>some (some (s,ps))
 |_,_=>none
def hk(E:Env)(f:Nat)(F:Fr)(c:Operand):Nat->List Arg->Option (Option (Nat×Path))
 |_,[]=>some none
 |i,a::hK=>match E.mode f i with
  | .eF=>r8 (j4 E F c a) (hk E f F c (i+1) hK)
  |_=>hk E f F c (i+1) hK
def q2:Option D->Mode->Option D->Option D->Option D
 |some d,_,_,_=>some d
 |none,.eF,l,_=>l
 |none,.snap,_,s=>s
 |none,.move,_,_=>none
def gu(E:Env)(f:Nat)(F bN:Fr)(c:Operand)(l:Option D):Nat->List Arg->List (Option D)->Option (List D)
 |_,[],[]=>some []
 |i,a::hK,m::ms=>match q2 m (E.mode f i) l ((j4 E F c a).bind (eV bN)),gu E f F bN c l (i+1) hK ms with
  |some d,some az=>some (d::az)
  |_,_=>none
 |_,_,_=>none
def iu(E:Env)(f:Nat)(F:Fr)(c:Operand):Nat->List Arg->List D
 |_,[]=>[]
 |i,a::hK=>(match E.mode f i with
  | .snap=>(j4 E F c a).getD D.undef
  |_=>D.undef)::iu E f F c (i+1) hK
def lp(F:Fr):List D->Option Fr
 |[]=>some F
 |d::az=>match uW F d with
  |some aD=>lp aD az
  |none=>none
def pI(F:Fr):Option (Nat×Path)->Option (Option D×Fr)
 |none=>some (none,F)
 |some (s,ps)=>match b6 F s ps with
  |some d=>if d.dC then(setAt F s ps D.undef).map λaD=>(some d,aD)else none
  |none=>none
def lq(F:Fr):Option (Nat×Path)->List D->Option Fr
 |none,[]=>some F
 |some (s,q),[c]=>if c.node1 then(setAt F s q c).map λaD=>np aD s q else none
 |_,_=>none
def gF(xs:List Operand)(n:Nat):List Arg:=xs.map .gK++(List.range n).map .cap
def kn(E:Env)(call:Nat->List D->Option (D×List D))(F:Fr)(f:Nat)(c:Operand)(args:List Arg):Option (D×Fr):=
 match kE E f 0 F args with
 |none=>none
 |some (ms,aX)=>match hk E f aX c 0 args with
  |none=>none
  |some l=>match pI aX l with
   |none=>none
   |some (k3,bN)=>match gu E f aX bN c k3 0 args ms with
    |none=>none
    |some az=>match call f az with
     |none=>none
     |some (r,outs)=>
      match(if r.ln&&outs.all flat then some aX else lp aX (iu E f aX c 0 args))with
      |none=>none
      |some lR=>(lq lR l outs).map λjf=>(r,jf)
def OP(V:List Nat)(dst:Option Nat)(s:Nat):Bool:=V.contains s&&dst != some s
def rD(E:Env)(f:Nat)(V:List Nat)(F:Fr)(dst:Option Nat)(x:Operand):Option Fr:=match x with
 | .tmp t=>match get F t with
  |alias s ps=>if OP V dst s&&!(E.eager f (dst.getD 0))then some (fin F dst (alias s ps))
   else(mh F s ps).map λr=>fin r.2 dst r.1
  |sub s ps a b=>if OP V dst s&&!(E.eager f (dst.getD 0))then some (fin F dst (sub s ps a b))
   else(zy F s ps a b).map λr=>fin r.2 dst r.1
  |place s ps i o=>if OP V dst s then some (fin F dst (place s ps i o))else none
  |fn g cs=>some (fin F dst (fn g cs))
  |d=>if d.DT&&V.contains t then some (fin F dst (view t [] d))
   else(c9 E F (.tmp t)).map λr=>fin r.2 dst r.1
 |x=>(c9 E F x).map λr=>fin r.2 dst r.1
def wide(k:Nat)(es:List (List D)):Bool:=match es with
 |c::_=>c.length==k
 |[]=>true
def oe(E:Env)(F:Fr)(t:Nat)(x:D)(lo hi:Option Nat):Option D:=match x with
 |lit (.string s)=>match E.P.underlying t with
  |some .string=>if lo.getD 0<=hi.getD s.size/\hi.getD s.size<=s.size then some (lit (.string (s.extract (lo.getD 0) (hi.getD s.size))))else none
  |_=>none
 |sl es=>match eD E.P t with
  |some e=>if lo.getD 0<=hi.getD es.length/\hi.getD es.length<=es.length/\wide (aY E.P e) es/\0<aY E.P e then some (sl ((es.drop (lo.getD 0)).take (hi.getD es.length-lo.getD 0)))else none
  |none=>none
 |alias s ps=>match eD E.P t,gU F (alias s ps)with
  |some e,some es=>if lo.getD 0<=hi.getD es.length/\hi.getD es.length<=es.length/\wide (aY E.P e) es/\0<aY E.P e then some (sub s ps (lo.getD 0) (hi.getD es.length-lo.getD 0))else none
  |_,_=>none
 |sub s ps off len=>match eD E.P t,gU F (alias s ps)with
  |some e,some es=>if lo.getD 0<=hi.getD len/\hi.getD len<=len/\wide (aY E.P e) es/\0<aY E.P e then some (sub s ps (off+lo.getD 0) (hi.getD len-lo.getD 0))else none
  |_,_=>none
 |_=>none
def iK(E:Env)(F:Fr):Option Operand->Option (Option Nat)
 |none=>some none
 |some x=>match aZ E F x with
  |some d=>(asNat d).map some
  |none=>none
def rF(s:ByteArray):List (List D):=s.data.toList.map λc=>[lit (.int .u8 c.toNat)]
def MR:List D->Option UInt8
 |[lit (.int .u8 n)]=>if 0<=n/\n<256 then some (UInt8.ofNat n.toNat)else none
 |_=>none
def wT:List (List D)->Option (List UInt8)
 |[]=>some []
 |c::cs=>match MR c,wT cs with
  |some b,some bs=>some (b::bs)
  |_,_=>none
def wV(E:Env)(F:Fr)(s t:Nat)(x:D):Option D:=match E.P.underlying s,E.P.underlying t,x with
 |some (.int _),some (.int k),lit (.int _ n)=>some (lit (.int k (k.wrap n)))
 |some (.int _),some .string,lit (.int _ n)=>some (lit (.string (Utf8.encode n)))
 |some .string,some .string,lit (.string b)=>some (lit (.string b))
 |some .string,some (.slice e),lit (.string b)=>match E.P.underlying e with
  |some (.int .u8)=>if b.size<=9223372036854775807 then some (sl (rF b))else none
  |_=>none
 |some (.slice e),some .string,d=>match E.P.underlying e,gU F d with
  |some (.int .u8),some es=>(wT es).map λl=>lit (.string ⟨l.toArray⟩)
  |_,_=>none
 |_,_,_=>none
def jO(E:Env)(F:Fr)(y:Operand):Option (List (List D)×Fr):=match aZ E F y with
 |some (lit (.string s))=>some (rF s,F)
 |some (sl es)=>some (es,F)
 |some (alias s ps)=>match b6 F s ps with
  |some (sl es)=>some (es,F)
  |some (own es)=>
   if es.any λc=>c.any dC then
    match y with
    | .tmp t=>match get F t with
     |own es=>some (es,kill (cf F t D.undef) t [])
     |_=>none
    |_=>none
   else some (es,F)
  |_=>none
 |some (sub s ps off len)=>match gU F (sub s ps off len)with
  |some es=>if es.any λc=>c.any dC then none else some (es,F)
  |none=>none
 |some (own es)=>some (es,F)
 |_=>none
def rC(E:Env)(F:Fr)(t:Nat)(dst:Option Nat)(x y:Operand):Option Fr:=match eD E.P t with
 |none=>none
 |some e=>match fC E.P e with
  |none=>none
  |some z=>match c9 E F x with
   |some (own es,aX)=>match jO E aX y with
    |some (new,bN)=>
     if(es.length+new.length)*j5 E.P e<=140737488355328/\es.length+new.length<=9223372036854775807/\z.cells.length=aY E.P e/\0<aY E.P e/\(es.all λc=>c.length==aY E.P e)=true/\(new.all λc=>c.length==aY E.P e)=true then
      some (fin bN dst (own (es++new)))
     else none
    |none=>none
   |_=>none
def vr(E:Env)(t:Nat)(cs:List D)(off:Nat):Option D:=
 if(E.P.underlying t).isSome/\off+aY E.P t<=cs.length then se (h0 E.P t) ((cs.drop off).take (aY E.P t))else none
def Bo(op:Int->Int->Int):List D->Option D
 |[lit (.int k a),lit (.int k' b)]=>if k=k' then some (lit (.int k (op a b)))else none
 |_=>none
def MU:Value->Value->Bool
 | .int k m,.int k' n=>k==k'&&m==n
 | .string m,.string n=>m==n
 |_,_=>false
def k1:Value->Value->Bool
 | .int k a,.int k' b=>k==k'&&a==b
 | .string a,.string b=>a==b
 | .agg a,.agg b=>a.size==b.size&&(a.toList.zip b.toList).all λx=>MU x.1 x.2
 |_,_=>false
def xl:List D->Option (List Value)
 |[]=>some []
 |lit v::r=>(xl r).map (v::·)
 |_::_=>none
def keyOf:D->Option Value
 |lit v=>some v
 |agg cs=>(xl cs).map λl=>.agg l.toArray
 |_=>none
def look(k:Value):List (Value×D)->Option D
 |[]=>none
 |(k',d)::r=>if k1 k k' then some d else look k r
def lH(k:Value)(d:D):List (Value×D)->List (Value×D)
 |[]=>[(k,d)]
 |(k',bf)::r=>if k1 k k' then(k',d)::r else(k',bf)::lH k d r
def OM(q:IntKind):Value->Bool
 | .int q' _=>q' == q
 |_=>false
def hO(P:Program)(k:Nat):Value->Bool
 | .int q _=>match P.underlying k with
  |some (.int q')=>q==q'
  |_=>false
 | .string _=>match P.underlying k with
  |some .string=>true
  |_=>false
 | .agg cs=>match P.underlying k with
  |some (.array n e)=>match P.underlying e with
   |some (.int q)=>cs.size==n&&aY P e==1&&cs.toList.all (OM q)
   |_=>false
  |_=>false
 |_=>false
def Bq(P:Program)(k:Nat)(es:List (Value×D)):Bool:=es.all λx=>hO P k x.1
def xm(E:Env)(F:Fr)(t:Nat)(x k:D)(ok:Bool):Option D:=match Bx E.P t,x,keyOf k with
 |some (kt,e),alias s ps,some kv=>match b6 F s ps,fC E.P e with
  |some (map es),some z=>if hO E.P kt kv&&Bq E.P kt es then match look kv es with
   |some d=>some (if ok then bt [d,lit (.bool true)]else d)
   |none=>if z.DT then none else some (if ok then bt [z,lit (.bool false)]else z)
   else none
  |_,_=>none
 |_,_,_=>none
def E0(E:Env)(F:Fr)(t:Nat)(m k v:Operand):Option Fr:=match Bx E.P t,aZ E F m,aZ E F k,aZ E F v with
 |some (kt,_),some (alias s ps),some kd,some d=>match b6 F s ps,keyOf kd,eV F d with
  |some (map es),some kv,some bf=>if bf.flat&&hO E.P kt kv&&Bq E.P kt es then setAt F s ps (map (lH kv bf es))else none
  |_,_,_=>none
 |_,_,_,_=>none
def nU(E:Env)(F:Fr)(o:Oper)(b:Builtin)(xs:List Operand)(ts:List Nat):Option Fr:=match b,xs,ts with
 | .len,[x],t::_=>match aZ E F x with
  |some d=>(vl E F t d).map (fin F o.dst)
  |none=>none
 | .append,[x,y],[t,u]=>if nw E.P u then rC E F t o.dst x y else none
 | .max,[x,y],_=>match aZ E F x,aZ E F y with
  |some a,some b=>(Bo (λa b=>if b > a then b else a) [a,b]).map (fin F o.dst)
  |_,_=>none
 | .min,[x,y],_=>match aZ E F x,aZ E F y with
  |some a,some b=>(Bo (λa b=>if b<a then b else a) [a,b]).map (fin F o.dst)
  |_,_=>none
 | .clear,[x],t::_=>match aZ E F x,eD E.P t with
  |some (sub s ps off len),some e=>match b6 F s ps,fC E.P e with
   |some (own es),some z=>
    if off+len<=es.length/\z.cells.length=aY E.P e/\0<aY E.P e/\(es.all λc=>c.length==aY E.P e)=true then
     (setAt F s ps (own (es.take off++aA len z.cells++es.drop (off+len)))).map λaD=>fin (np aD s ps) o.dst (bt [])
    else none
   |_,_=>none
  |_,_=>none
 |_,_,_=>none
def DO:D->Bool
 |lit _|sl _|ref _=>true
 |_=>false
def AO:D->Bool
 |agg cs=>cs.all DO
 |d=>DO d
def I3(E:Env)(F:Fr)(dst:Option Nat)(x:Operand):Option Fr:=match x with
 | .tmp t=>match get F t with
  |bt az=>if az.all AO then some (fin F dst (bt az))else some (fin (kill (cf F t D.undef) t []) dst (bt az))
  |_=>(aZ E F x).map (fin F dst)
 |_=>(aZ E F x).map (fin F dst)
def lS(b:Bool)(d:D):Option D:=if b then match d with
  |bt az=>(hA az).map bt
  |d=>d.freeze
 else some d
def uN:D->Bool
 |lit _|sl _|ref _|alias ..|sub ..|place ..=>true
 |fn _ cs=>!cs.any uK
 |_=>false
def uO(E:Env)(F:Fr):List Operand->Option (List D)
 |[]=>some []
 |x::xs=>match aZ E F x,uO E F xs with
  |some d,some az=>if uN d then some (d::az)else none
  |_,_=>none
def DG(E:Env)(t:Nat):Option Nat:=match E.bld t,(E.P.info? t).bind (·.zero)with
 |some e,some (.agg cs)=>match cs.toList with
  |[.pointer none,.slice none 0 0]=>some e
  |_=>none
 |_,_=>none
def cV(E:Env)(f:Nat)(V:List Nat)(call:Nat->List D->Option (D×List D))(F:Fr)(o:Oper):Option Fr:=match o.op with
 | .move x=>I3 E F o.dst x
 | .assign x=>rD E f V F o.dst x
 | .pick c a b=>match aZ E F c with
  |some (lit (.bool t))=>(aZ E F (if t then a else b)).map (fin F o.dst)
  |_=>none
 | .alloc t=>match DG E t with
  |some e=>some (fin F o.dst (bld t e []))
  |none=>(fC E.P t).map λz=>fin F o.dst (box z.cells)
 | .box t x=>(c9 E F x).bind λr=>if r.1.cells.length=aY E.P t then some (fin r.2 o.dst (box r.1.cells))else none
 | .build t ps=>match fC E.P t,iL E F ps.toList with
  |some z,some (az,aX)=>match E.P.underlying t with
   |some (.array _ e)=>if(E.P.info? e).isSome then(rL (λi=>some (i*aY E.P e,aY E.P e)) z.cells az).map λcs=>fin aX o.dst (agg cs)else none
   |some (.struct fs)=>if fs.toList.all λf=>(E.P.info? f.type).isSome then(rL (λi=>(fs[i]?).map λfd=>(fd.offset,aY E.P fd.type)) z.cells az).map λcs=>fin aX o.dst (agg cs)else none
   |_=>none
  |_,_=>none
 | .buildSlice t n ps=>match eD E.P t with
  |none=>none
  |some e=>match fC E.P e,iL E F ps.toList with
   |some z,some (az,aX)=>
    if n*aY E.P e<=16777216/\z.cells.length=aY E.P e/\0<aY E.P e then
     (xE (aY E.P e) (aA n z.cells) az).map λes=>fin aX o.dst (own es)
    else none
   |_,_=>none
 | .load t x=>match aZ E F x with
  |some d=>(oa E F t d).map (fin F o.dst)
  |none=>none
 | .store t x y=>if(E.P.info? t).isSome then match c9 E F y with
  |some (d,aX)=>match aZ E aX x with
   |some p=>(xF E aX t p d).map λbN=>fin bN o.dst (bt [])
   |none=>none
  |none=>none
  else none
 | .nilCheck x=>match aZ E F x with
  |some (alias s ps)=>match b6 F s ps with
   |some (box _)=>some (fin F o.dst (alias s ps))
   |some (ref _)=>some (fin F o.dst (alias s ps))
   |_=>none
  |some (place s ps i c)=>some (fin F o.dst (place s ps i c))
  |some (ref cs)=>some (fin F o.dst (ref cs))
  |_=>none
 | .binOp op t x y _=>match aZ E F x,aZ E F y with
  |some a,some b=>(qt E op t a b).map (fin F o.dst)
  |_,_=>none
 | .unOp op _ x=>match aZ E F x with
  |some (lit v)=>(Jq op v).map λu=>fin F o.dst (lit u)
  |_=>none
 | .convert s t x=>match aZ E F x with
  |some d=>(wV E F s t d).map (fin F o.dst)
  |none=>none
 | .makeFunc (.func g) first ey=>if first.isEmpty then(uO E F ey.toList).map λcs=>fin F o.dst (fn g cs)else none
 | .makeMap _ none=>some (fin F o.dst (map []))
 | .makeSlice t l c=>match aZ E F l,aZ E F c,eD E.P t with
  |some dl,some s0,some e=>match asNat dl,asNat s0,fC E.P e with
   |some n,some m,some z=>
    if n=m/\m*j5 E.P e<=281474976710656/\m<=9223372036854775807/\z.cells.length=aY E.P e/\0<aY E.P e then some (fin F o.dst (own (aA n z.cells)))else none
   |_,_,_=>none
  |_,_,_=>none
 | .slice t x lo hi none=>match aZ E F x,iK E F lo,iK E F hi with
  |some d,some l,some h=>(oe E F t d l h).map (fin F o.dst)
  |_,_,_=>none
 | .fieldAddr t x j=>match n1 E.P t j,(aZ E F x).bind (gB F)with
  |some fd,some (.nj cs)=>if 0<aY E.P fd.type then some (fin F o.dst (ref (cs.drop fd.offset)))else none
  |some fd,some (.loc s ps i c)=>if 0<aY E.P fd.type then some (fin F o.dst (place s ps i (c+fd.offset)))else none
  |_,_=>none
 | .field t x j=>match n1 E.P t j,aZ E F x with
  |some fd,some (agg cs)=>(vr E fd.type cs fd.offset).map (fin F o.dst)
  |_,_=>none
 | .indexAddr t x ix=>match aZ E F x,aZ E F ix with
  |some d,some i=>(nm E F t d i).map (fin F o.dst)
  |_,_=>none
 | .index t x ix=>match aZ E F x,(aZ E F ix).bind asNat with
  |some (lit (.string s)),some i=>match E.P.underlying t with
   |some .string=>(s[i]?).map λb=>fin F o.dst (lit (.int .u8 b.toNat))
   |_=>none
  |some (agg cs),some i=>match yv E.P t with
   |some (n,e)=>if i<n then(vr E e cs (i*aY E.P e)).map (fin F o.dst)else none
   |none=>none
  |_,_=>none
 | .lookup t x k ok=>match aZ E F x,aZ E F k with
  |some d,some kd=>(xm E F t d kd ok).map (fin F o.dst)
  |_,_=>none
 | .mapUpdate t m k v=>(E0 E F t m k v).map λaD=>fin aD o.dst (bt [])
 | .insert t m k v=>(E0 E F t m k v).map λaD=>fin aD o.dst (bt [])
 | .extract (.tmp t) i=>match get F t with
  |bt az=>(az[i]?).map λd=>fin F o.dst (view t [(0,i)] d)
  |_=>none
 | .call c=>match c.callee with
  | .builtin b=>nU E F o b c.args.toList c.argTypes.toList
  | .value x=>match aZ E F x with
   |some (fn g ey)=>(kn E call F g x (gF c.args.toList ey.length)).bind λr=>(lS (E.eager f (o.dst.getD 0)) r.1).map (fin r.2 o.dst)
   |_=>none
  | .invoke ..=>none
 |_=>none
def fV(ops:Array Oper)(F:Fr)(o:Oper):Option Bool:=match o.guard with
 |none=>some true
 |some (j,b)=>match(ops[j]?).bind (·.dst)with
  |some t=>match get F t with
   |lit (.bool iA)=>some (iA == b)
   |bt _=>some false
   |lit _=>some false
   |_=>none
  |none=>some false
def fQ(E:Env)(f:Nat)(V:List Nat)(call:Nat->List D->Option (D×List D))(ops:Array Oper):List Nat->Fr->Option Fr
 |[],F=>some F
 |i::r,F=>match ops[i]? with
  |none=>fQ E f V call ops r F
  |some o=>match fV ops F o with
   |some true=>match cV E f V call F o with
    |some aD=>fQ E f V call ops r aD
    |none=>none
   |some false=>fQ E f V call ops r (fin F o.dst (bt []))
   |none=>none
def outside(V:List Nat)(_:Bool)(s:Nat)(_:Path):Bool:=!V.contains s
def norm(V:List Nat)(F:Fr):Fr:=V.map λs=>(s,D.dN (outside V) (get F s))
def iter:Nat->(Fr->Option (dU×Fr))->Fr->Option (dU×Fr)
 |0,_,_=>none
 |n+1,b,F=>match b F with
  |some (.normal,aD)=>iter n b aD
  |r=>r
end Go.aS
