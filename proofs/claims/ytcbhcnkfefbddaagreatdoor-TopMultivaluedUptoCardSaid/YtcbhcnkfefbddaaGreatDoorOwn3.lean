/- An interpreter of function bodies, sound. No conditions. -/
import Derived.Test.YtcbhcnkfefbddaaGreatDoorOwn2
set_option linter.all false
open List renaming range->aA,replicate->aQ
open Nat renaming beq->aM
namespace Go.aS
open D
def Hj:D->Bool
 |lit _|sl _|ref _=>true
 |fn _ cs=>!cs.any uK
 |_=>false
def ov(E:Env)(F:Fr):Operand->Option D
 | .tmp t=>match get F t with
  |lit v=>some (lit v)
  |sl es=>some (sl es)
  |ref cs=>some (ref cs)
  |fn f cs=>if cs.any uK then none else some (fn f cs)
  |agg cs=>if cs.all Hj then some (agg cs)else none
  |alias s ps=>match b6 F s ps with
   |some (sl es)=>some (sl es)
   |some (ref cs)=>some (ref cs)
   |_=>none
  |_=>none
 | .const v=>if rG v then some (uR v)else none
 | .func f=>some (fn f [])
 | .global _=>none
def o8(E:Env)(F:Fr):List (Nat×Operand)->Option (List (Nat×D))
 |[]=>some []
 |(i,x)::r=>match ov E F x,o8 E F r with
  |some d,some az=>some ((i,d)::az)
  |_,_=>none
def nk(F:Fr):D->Bool
 |alias s ps=>match b6 F s ps with
  |some (sl _)=>true
  |some (ref _)=>true
  |_=>false
 |sub s ps _ _=>match b6 F s ps with
  |some (sl _)=>true
  |some (ref _)=>true
  |_=>false
 |place ..=>false
 |_=>true
def qT(F:Fr):D->Bool
 |agg cs=>cs.all (nk F)
 |fn _ cs=>cs.all (nk F)
 |d=>nk F d
def C1(E:Env)(f n:Nat):Bool:=(aA n).all λi=>E.mode f i == .snap
def dJ(E:Env)(f:Nat)(call:Nat->List D->Option (D×List D))(F:Fr)(o:Oper):Option D:=match o.op with
 | .move x=>match x with
  | .tmp t=>match get F t with
   |bt az=>if az.all AO then some (bt az)else none
   |_=>aZ E F x
  |_=>aZ E F x
 | .assign x=>match x with
  | .tmp t=>match get F t with
   |lit v=>some (lit v)
   |sl es=>some (sl es)
   |_=>none
  | .const v=>if rG v then some (uR v)else none
  |_=>none
 | .pick c a b=>match aZ E F c with
  |some (lit (.bool t))=>aZ E F (if t then a else b)
  |_=>none
 | .alloc t=>match DG E t with
  |some e=>some (bld t e [])
  |none=>(fC E.P t).map λz=>box z.cells
 | .box t x=>match ov E F x with
  |some d=>if d.cells.length=aY E.P t then some (box d.cells)else none
  |none=>none
 | .build t ps=>match fC E.P t,o8 E F ps.toList with
  |some z,some az=>match E.P.underlying t with
   |some (.array _ e)=>if(E.P.info? e).isSome then(rL (λi=>some (i*aY E.P e,aY E.P e)) z.cells az).map agg else none
   |some (.struct fs)=>if fs.toList.all λf=>(E.P.info? f.type).isSome then(rL (λi=>(fs[i]?).map λfd=>(fd.offset,aY E.P fd.type)) z.cells az).map agg else none
   |_=>none
  |_,_=>none
 | .buildSlice t n ps=>match eD E.P t with
  |none=>none
  |some e=>match fC E.P e,o8 E F ps.toList with
   |some z,some az=>
    if n*aY E.P e<=16777216/\z.cells.length=aY E.P e/\0<aY E.P e then
     (xE (aY E.P e) (aQ n z.cells) az).map own
    else none
   |_,_=>none
 | .load t x=>match aZ E F x with
  |some d=>oa E F t d
  |none=>none
 | .nilCheck x=>match aZ E F x with
  |some (alias s ps)=>match b6 F s ps with
   |some (box _)=>some (alias s ps)
   |some (ref _)=>some (alias s ps)
   |_=>none
  |some (place s ps i c)=>some (place s ps i c)
  |some (ref cs)=>some (ref cs)
  |_=>none
 | .binOp op t x y _=>match aZ E F x,aZ E F y with
  |some a,some b=>qt E op t a b
  |_,_=>none
 | .unOp op _ x=>match aZ E F x with
  |some (lit v)=>(Jq op v).map lit
  |_=>none
 | .convert s t x=>match aZ E F x with
  |some d=>wV E F s t d
  |none=>none
 | .makeFunc (.func g) first ey=>if first.isEmpty then(uO E F ey.toList).map (fn g)else none
 | .makeMap _ none=>some (map [])
 | .makeSlice t l c=>match aZ E F l,aZ E F c,eD E.P t with
  |some dl,some s0,some e=>match asNat dl,asNat s0,fC E.P e with
   |some n,some m,some z=>
    if n=m/\m*j5 E.P e<=281474976710656/\m<=9223372036854775807/\z.cells.length=aY E.P e/\0<aY E.P e then some (own (aQ n z.cells))else none
   |_,_,_=>none
  |_,_,_=>none
 | .slice t x lo hi none=>match aZ E F x,iK E F lo,iK E F hi with
  |some d,some l,some h=>oe E F t d l h
  |_,_,_=>none
 | .fieldAddr t x j=>match n1 E.P t j,(aZ E F x).bind (gB F)with
  |some fd,some (.nj cs)=>if 0<aY E.P fd.type then some (ref (cs.drop fd.offset))else none
  |some fd,some (.loc s ps i c)=>if 0<aY E.P fd.type then some (place s ps i (c+fd.offset))else none
  |_,_=>none
 | .field t x j=>match n1 E.P t j,aZ E F x with
  |some fd,some (agg cs)=>vr E fd.type cs fd.offset
  |_,_=>none
 | .indexAddr t x ix=>match aZ E F x,aZ E F ix with
  |some d,some i=>nm E F t d i
  |_,_=>none
 | .index t x ix=>match aZ E F x,(aZ E F ix).bind asNat with
  |some (lit (.string s)),some i=>match E.P.underlying t with
   |some .string=>(s[i]?).map λb=>lit (.int .u8 b.toNat)
   |_=>none
  |some (agg cs),some i=>match yv E.P t with
   |some (n,e)=>if i<n then vr E e cs (i*aY E.P e)else none
   |none=>none
  |_,_=>none
 | .lookup t x k ok=>match aZ E F x,aZ E F k with
  |some d,some kd=>xm E F t d kd ok
  |_,_=>none
 | .extract (.tmp t) i=>match get F t with
  |bt az=>(az[i]?).map λd=>view t [(0,i)] d
  |_=>none
 | .call c=>match c.callee with
  | .builtin .len=>match c.args.toList,c.argTypes.toList with
   |[x],t::_=>match aZ E F x with
    |some d=>vl E F t d
    |none=>none
   |_,_=>none
  | .builtin .max=>match c.args.toList with
   |[x,y]=>match aZ E F x,aZ E F y with
    |some a,some b=>Bo (λa b=>if b > a then b else a) [a,b]
    |_,_=>none
   |_=>none
  | .builtin .min=>match c.args.toList with
   |[x,y]=>match aZ E F x,aZ E F y with
    |some a,some b=>Bo (λa b=>if b<a then b else a) [a,b]
    |_,_=>none
   |_=>none
  | .value x=>match aZ E F x with
   |some (fn g ey)=>
    if C1 E g (gF c.args.toList ey.length).length then
     match gu E g F F x none 0 (gF c.args.toList ey.length) ((gF c.args.toList ey.length).map λ_=>none)with
     |some az=>match call g az with
      |some (r,[])=>if r.ln || (iu E g F x 0 (gF c.args.toList ey.length)).all (qT F)then lS (E.eager f (o.dst.getD 0)) r else none
      |_=>none
     |none=>none
    else none
   |_=>none
  |_=>none
 |_=>none
def hV(ops:Array Oper):Nat->Nat->Nat->Bool
 |0,_,_=>false
 |n+1,j,i=>match ops[i]? with
  |none=>false
  |some o=>o.after.toList.any λe=>Region.binds .any e&&decide (e.on<i)&&(e.on==j || (decide (j<e.on)&&hV ops n j e.on))
def iN(o:Oper):List Nat:=o.op.operands.toList.filterMap fun| .tmp t=>some t|_=>none
def z7(ops:Array Oper)(o:Oper):List Nat:=match o.guard with
 |none=>[]
 |some (j,_)=>((ops[j]?).bind (·.dst)).toList
abbrev g6:=List (Nat×List Nat×Option (List (Nat×Path)))
def fD(ops:Array Oper)(bd:g6)(i:Nat):List Nat:=(bd.filter λb=>!hV ops ops.size b.1 i).flatMap λb=>b.2.1
def gm(pE:List Nat)(F:Fr):Fr:=F.map λx=>if pE.contains x.1 then(x.1,D.undef)else x
def e5(E:Env)(f:Nat)(call:Nat->List D->Option (D×List D))(ops:Array Oper)(F:Fr)(o:Oper):Option D:=match fV ops F o with
 |some true=>dJ E f call F o
 |some false=>some (bt [])
 |none=>none
def kK:D->Bool
 | .undef=>true
 |_=>false
def qa(F:Fr)(o:Oper):Bool:=match o.dst with
 |none=>true
 |some t=>kK (get F t)&&F.any λx=>x.1==t
def lF(F:Fr)(dst:Option Nat)(d:D):Fr:=match dst with
 |none=>F
 |some t=>cf F t d
def la(ops:Array Oper)(i:Nat):Bool:=(aA ops.size).all λj=>if j<i then hV ops ops.size j i else if i<j then hV ops ops.size i j else true
def uo(bd:g6)(o:Oper):Bool:=match o.dst with
 |none=>true
 |some t=>bd.all λb=>!b.2.1.contains t
def jZ(ops:Array Oper)(F:Fr)(o:Oper):Bool:=(iN o++z7 ops o).all λt=>!kK (get F t)
def yz(o:Oper):List Nat:=o.dst.toList
def pg(ks:List (Nat×Path)):D->Bool
 |alias s ps=>ks.all λk=>Nat.blt ps.length k.2.length || !h8 k.1 k.2 true s ps
 |sub s ps _ _=>ks.all λk=>Nat.blt ps.length k.2.length || !h8 k.1 k.2 false s ps
 |place s ps _ _=>ks.all λk=>Nat.blt ps.length k.2.length || !h8 k.1 k.2 false s ps
 |_=>true
def ql(ks:List (Nat×Path)):D->Bool
 |agg cs=>cs.all (pg ks)
 |fn _ cs=>cs.all (pg ks)
 |d=>pg ks d
def rl(ops:Array Oper)(bd:g6)(i:Nat)(d:D):Bool:=bd.all λb=>match b.2.2 with
 |none=>true
 |some ks=>hV ops ops.size b.1 i || ql ks d
def gS:D->Option Nat->Option D
 |box cs,some c=>match cs[c]? with
  |some (lit v)=>some (lit v)
  |_=>none
 |box _,none=>some .undef
 |_,_=>none
def Dp:Option Nat->Path->Bool
 |some c,(_,c')::_=>!Nat.beq c c'
 |none,_::_=>true
 |_,[]=>false
def nI(o:Oper):Bool:=match o.op with
 | .call c=>match c.callee with
  | .builtin _=>true
  |_=>false
 |_=>false
def pf(o:Oper):Bool:=match o.op with
 | .assign _=>true
 |_=>false
def Hb(ops:Array Oper)(s:Nat)(c:Option Nat)(i:Nat)(ks:List (Nat×Path)):Bool:=(match ops[i]? with
 |some o=>nI o
 |none=>false)&&ks.all λk=>!Nat.beq k.1 s || Dp c k.2
def As(ops:Array Oper)(i s:Nat)(c:Option Nat)(b:Nat×List Nat×Option (List (Nat×Path))):Bool:=
 hV ops ops.size b.1 i || !b.2.1.contains s || (match b.2.2 with
  |some ks=>Hb ops s c b.1 ks
  |none=>false)
def Av(E:Env)(pE:List Nat)(F:Fr)(o:Oper):Option (Nat×Option Nat):=match o.op,o.guard with
 | .load t (.tmp u),none=>if pE.contains u then none else match get F u with
  |place s [] 0 c=>if aM (aY E.P t) 1&&(gS (get F s) (some c)).isSome then some (s,some c)else none
  |_=>none
 | .fieldAddr _ (.tmp u) _,none=>match get F u with
  |box _=>some (u,none)
  |alias s []=>if pE.contains u then none else if(gS (get F s) none).isSome then some (s,none)else none
  |_=>none
 |_,_=>none
def x7(_:Nat)(_:List D):Option (D×List D):=none
def Af(E:Env)(f:Nat)(ops:Array Oper)(bd:g6)(i:Nat)(F:Fr)(o:Oper):Option D:=match Av E (fD ops bd i) F o with
 |some (s,c)=>if bd.all (As ops i s c)then e5 E f x7 ops F o else none
 |none=>none
def x_(s i c k:Nat)(zn:List D):List (Nat×Path):=if zn.any node1 then(aA k).map λj=>(s,[(i,c+j)])else[]
def mo(E:Env)(F:Fr)(o:Oper):Option ((Nat×D)×List (Nat×Path)):=match o.op with
 | .store t x y=>match o.dst with
  |some _=>none
  |none=>match ov E F y with
   |none=>none
   |some d=>match aZ E F x with
    |some (place s [] i c)=>match get F s with
     |own es=>match es[i]? with
      |some ct=>if(E.P.info? t).isSome/\d.cells.length=aY E.P t/\c+aY E.P t<=ct.length then some ((s,own (es.set i (ct.take c++d.cells++ct.drop (c+aY E.P t)))),x_ s i c (aY E.P t) ((ct.drop c).take (aY E.P t)))else none
      |none=>none
     |_=>none
    |some (alias s [])=>match get F s with
     |box cs=>if(E.P.info? t).isSome/\d.cells.length=aY E.P t/\aY E.P t<=cs.length then some ((s,box (d.cells++cs.drop (aY E.P t))),x_ s 0 0 (aY E.P t) (cs.take (aY E.P t)))else none
     |_=>none
    |_=>none
 |_=>none
def Ay(F:Fr):Operand->Option (List Nat×List (Nat×Path))
 | .tmp u=>match get F u with
  |own _=>some ([u],[(u,[])])
  |agg cs=>if cs.any dC&&!cs.any tz then some ([u],[(u,[])])else none
  |alias s ps=>some ([s,u],[(s,ps)])
  |lit _=>some ([],[])
  |sl _=>some ([],[])
  |ref _=>some ([],[])
  |_=>none
 |_=>some ([],[])
def yd(E:Env)(F:Fr):List (Nat×Operand)->Option (List Nat×List (Nat×Path))
 |[]=>some ([],[])
 |(_,x)::r=>match Ay F x,c9 E F x with
  |some a,some (_,aX)=>match yd E aX r with
   |some b=>some (a.1++b.1,a.2++b.2)
   |none=>none
  |_,_=>none
def Aq(E:Env)(F:Fr)(ps:List (Nat×Operand))(dst:Option Nat):Option (List Nat×Nat×List (Nat×Path)):=match yd E F ps,dst with
 |some b,some t=>some (t::b.1,t,b.2)
 |_,_=>none
def GU(E:Env)(g:Nat)(F:Fr):Nat->List Operand->Bool
 |_,[]=>true
 |i,x::r=>E.mode g i == .snap&&(match aZ E F x with
  |some (lit _)=>true
  |_=>false)&&GU E g F (i+1) r
def Gc(E:Env)(F:Fr)(g:Nat)(xs:List Operand)(dst:Option Nat):Option (List Nat×Nat×List (Nat×Path)):=match xs,dst with
 | .tmp u::rest,some t=>match get F u with
  |alias s []=>if E.mode g 0 == .eF&&(get F s).dC&&GU E g F 1 rest then some ([s,u,t],s,[(s,[])])else none
  |_=>none
 |_,_=>none
def K1(F:Fr)(x:Operand)(dst:Option Nat):Option (List Nat×Nat×List (Nat×Path)):=match x,dst with
 | .tmp u,some t=>match get F u with
  |alias s ps=>match b6 F s ps with
   |some (own _)=>some ([s,u,t],t,[(s,ps),(t,[])])
   |_=>none
  |own _=>some ([u,t],t,[(u,[]),(t,[])])
  |_=>none
 |_,_=>none
def mT(E:Env)(F:Fr)(o:Oper):Option (List Nat×Nat×List (Nat×Path)):=match o.op with
 | .call c=>match c.callee with
  | .builtin .append=>match c.args.toList,o.dst with
   |[.tmp t0,.tmp t1],some t=>match get F t0 with
    |own _=>some ([t0,t],t1,[(t0,[]),(t1,[])])
    |alias s ps=>some ([s,t0,t],t1,[(s,ps),(t1,[])])
    |_=>none
   |_,_=>none
  | .value (.func g)=>Gc E F g c.args.toList o.dst
  |_=>none
 | .assign x=>K1 F x o.dst
 | .build _ ps=>Aq E F ps.toList o.dst
 | .buildSlice _ _ ps=>Aq E F ps.toList o.dst
 |_=>none
def eB:List (Nat×D)->Fr->Fr
 |[],F=>F
 |(t,d)::r,F=>eB r (cf F t d)
def fJ(z:List Nat×Nat×List (Nat×Path))(aD:Fr):List (Nat×D):=(z.1++if kK (get aD z.2.1)then[z.2.1]else[]).map λk=>(k,get aD k)
def sJ(E:Env)(F:Fr)(o:Oper):Option (List (Nat×D)×List (Nat×Path)):=match o.op with
 | .store t (.tmp u) (.tmp w)=>match o.dst with
  |some _=>none
  |none=>match get F w,get F u with
   |own es,place s [] 0 c=>match get F s with
    |box cs=>if(E.P.info? t).isSome/\aY E.P t=1/\c+1<=cs.length/\(((cs.drop c).take 1).any node1)=false then some ([(s,box (cs.take c++[own es]++cs.drop (c+1))),(w,.undef)],[(w,[])])else none
    |_=>none
   |_,_=>none
 |_=>none
def j8(E:Env)(f:Nat)(V:List Nat)(call:Nat->List D->Option (D×List D))(F:Fr)(o:Oper):Option (List (Nat×D)×List (Nat×Path)):=match mo E F o with
 |some r=>some ([r.1],r.2)
 |none=>match sJ E F o with
  |some r=>some r
  |none=>match mT E F o,cV E f V call F o with
   |some z,some aD=>some (fJ z aD,z.2.2)
   |_,_=>none
def dp(p:List (Nat×D))(k:Nat):Bool:=p.any λx=>x.1==k
def LW:D->D->Bool
 |alias s ps,alias bk pW=>aM s bk&&ps==pW
 |place s ps i c,place bk pW kA c'=>aM s bk&&(ps==pW&&(aM i kA&&aM c c'))
 |_,_=>false
def again(E:Env)(f:Nat)(ops:Array Oper)(bd:g6)(F:Fr)(p:List (Nat×D))(b:Nat×List Nat×Option (List (Nat×Path))):Bool:=match ops[b.1]? with
 |none=>false
 |some o=>
  ((e5 E f x7 ops (gm (p.map (·.1)++fD ops bd b.1) F) o).isSome&&jZ ops (gm (p.map (·.1)++fD ops bd b.1) F) o) ||
  (match e5 E f x7 ops (eB p (gm (fD ops bd b.1) F)) o,e5 E f x7 ops (gm (fD ops bd b.1) F) o with
   |some d,some bf=>LW d bf&&jZ ops (eB p (gm (fD ops bd b.1) F)) o&&jZ ops (gm (fD ops bd b.1) F) o
   |_,_=>false)
def G6:List Nat->Bool
 |[]=>true
 |k::r=>!r.contains k&&G6 r
def kL:D->List Nat
 |alias s _=>[s]
 |sub s _ _ _=>[s]
 |place s _ _ _=>[s]
 |_=>[]
def Mc(o:Oper):Bool:=match o.op with
 | .move (.tmp _)=>true
 | .load _ (.tmp _)=>true
 | .indexAddr _ (.tmp _) (.tmp _)=>true
 | .indexAddr _ (.tmp _) (.const _)=>true
 | .fieldAddr _ (.tmp _) _=>true
 |_=>false
def G1(ops:Array Oper)(bd:g6)(F:Fr)(p:List (Nat×D))(j:Nat):Bool:=match ops[j]? with
 |none=>false
 |some o=>Mc o&&o.guard.isNone&&(iN o).all λu=>!(fD ops bd j).contains u&&!kK (get F u)&&!dp p u&&(kL (get F u)).all λs=>!dp p s
def T4(F:Fr)(o:Oper):Bool:=pf o&&(match o.dst with
 |none=>false
 |some t=>!kK (get F t))
def G0(E:Env)(ops:Array Oper)(bd:g6)(i:Nat)(F:Fr)(p:List (Nat×D))(ks:List (Nat×Path))(j:Nat):Bool:=match ops[j]? with
 |none=>false
 |some o=>match Av E (fD ops bd j) F o with
  |some (s,c)=>Hb ops s c i ks&&bd.all (As ops j s c)&&(iN o).all λu=>aM u s || !dp p u
  |none=>false
def Hf(E:Env)(f:Nat)(ops:Array Oper)(bd:g6)(i:Nat)(F:Fr)(o:Oper)(p:List (Nat×D))(ks:List (Nat×Path)):Bool:=
 jZ ops (gm (fD ops bd i) F) o&&(qa F o || T4 (gm (fD ops bd i) F) o)&&G6 (F.map (·.1))&&F.all (λx=>dp p x.1 || ql ks x.2)&&p.all (λx=>F.any λy=>y.1==x.1)&&(match o.dst with|none=>true|some t=>dp p t) &&
 bd.all λb=>hV ops ops.size b.1 i || (b.2.2.isNone&&(b.2.1.all (λk=>!dp p k)&&(G1 ops bd F p b.1 || (again E f ops bd F p b || G0 E ops bd i F p ks b.1))))
def oI(E:Env)(f:Nat)(V:List Nat)(call:Nat->List D->Option (D×List D))(ops:Array Oper)(bd:g6)(i:Nat)(F:Fr)(o:Oper):Option (g6×Fr):=match Af E f ops bd i F o with
 |some d=>if qa F o&&uo bd o&&rl ops bd i d then some ((i,yz o,none)::bd,lF F o.dst d)else none
 |none=>match fV ops (gm (fD ops bd i) F) o with
 |some true=>match j8 E f V call (gm (fD ops bd i) F) o with
  |some r=>if Hf E f ops bd i F o r.1 r.2 then some ((i,r.1.map (·.1),some r.2)::bd,eB r.1 F)else none
  |none=>none
 |_=>none
def j0(E:Env)(f:Nat)(V:List Nat)(call:Nat->List D->Option (D×List D))(ops:Array Oper):List Nat->g6->Fr->Option Fr
 |[],_,F=>some F
 |i::r,bd,F=>match ops[i]? with
  |none=>none
  |some o=>if la ops i then match fV ops F o with
    |some true=>match cV E f V call F o with
     |some aD=>j0 E f V call ops r [] aD
     |none=>none
    |some false=>j0 E f V call ops r [] (fin F o.dst (bt []))
    |none=>none
   else match e5 E f call ops (gm (fD ops bd i) F) o with
    |some d=>
     if jZ ops (gm (fD ops bd i) F) o&&qa F o&&uo bd o&&rl ops bd i d then j0 E f V call ops r ((i,yz o,none)::bd) (lF F o.dst d)
     else none
    |none=>match oI E f V call ops bd i F o with
     |some b=>j0 E f V call ops r b.1 b.2
     |none=>none
def mn(F:Fr):List Oper->Fr
 |[]=>F
 |o::r=>match o.op,o.dst with
  | .assign _,some t=>bif kK (get F t)then mn (put F t D.undef) r else mn F r
  | .assign _,none=>mn F r
  |_,some t=>mn (put F t D.undef) r
  |_,none=>mn F r
def Gd(ops:Array Oper):Bool:=(aA ops.size).all λi=>match ops[i]? with
 |some o=>o.after.toList.all λe=>!Region.binds .any e || decide (e.on<i)
 |none=>true
def k8(E:Env)(f:Nat)(V:List Nat)(call:Nat->List D->Option (D×List D))(ops:Array Oper)(draw:Bool)(F:Fr):Option Fr:=
 if draw then
  if Gd ops&&ops.toList.all (λo=>match o.op with| .select ..=>false|_=>true)then(j0 E f V call ops (aA ops.size) [] (mn F ops.toList)).map (norm V)else none
 else(fQ E f V call ops (aA ops.size) F).map (norm V)
def vH(E:Env)(f:Nat)(V:List Nat)(kind key:Nat)(F:Fr):Fr:=match E.EP f kind key with
 |none=>F
 |some K=>norm (V.filter λs=>Nat.ble 1000000 s || K.contains s) F
def qx(F:Fr)(s c:Nat):Nat->Fr
 |0=>F
 |n+1=>match kX (qx F s c n) s [(n,c)]with
  |some aD=>aD
  |none=>qx F s c n
def nW(F:Fr)(s:Nat):Nat->Fr
 |0=>F
 |n+1=>match kX (nW F s n) s [(0,n)]with
  |some aD=>aD
  |none=>nW F s n
def qw(F:Fr)(s c:Nat):Nat->Fr
 |0=>F
 |n+1=>match kX (qw F s c n) s [(0,c),(n,0)]with
  |some aD=>aD
  |none=>qw F s c n
def Mh(F:Fr)(s c:Nat):Nat:=match b6 F s [(0,c)]with
 |some (own es)=>es.length
 |_=>0
def ya(F:Fr)(s c:Nat):Fr:=match get F s with
 |own es=>if c=1000 then(kX F s []).getD F else qx F s c es.length
 |agg cs=>nW F s cs.length
 |box cs=>if c=2001 then qw F s 1 (Mh F s 1)else nW F s cs.length
 |_=>F
def sY:List (Nat×Nat)->Fr->Fr
 |[],F=>F
 |(s,c)::r,F=>sY r (ya F s c)
def trim(E:Env)(f:Nat)(V:List Nat)(kind key:Nat)(F:Fr):Fr:=sY (E.AL f kind key) (vH E f V kind key F)
def wo:Operand->Nat
 | .tmp t=>t
 |_=>0
def eu(E:Env)(f:Nat)(V:List Nat)(call:Nat->List D->Option (D×List D))(n:Nat):Code->Fr->Option (dU×Fr)
 | .skip,F=>some (.normal,F)
 | .region id ops draw,F=>(k8 E f V call ops draw F).map λaD=>(.normal,trim E f V 0 id aD)
 | .seq a b,F=>match eu E f V call n a F with
  |some (.normal,aD)=>eu E f V call n b aD
  |r=>r
 | .cond x a b,F=>match aZ E F x with
  |some (lit (.bool t))=>if t then eu E f V call n a (trim E f V 1 (wo x) F)else eu E f V call n b (trim E f V 2 (wo x) F)
  |_=>none
 | .block id b,F=>match eu E f V call n b F with
  |some (.exit i,aD)=>if i=id then some (.normal,aD)else some (.exit i,aD)
  |r=>r
 | .loop b,F=>iter n (eu E f V call n b) F
 | .exit id,F=>some (.exit id,trim E f V 3 id F)
 | .ret,F=>some (.ret,F)
 |_,_=>none
def nH(E:Env)(f:Nat):Nat->List D->Fr
 |_,[]=>[]
 |i,d::az=>if E.mode f i=.eF then(i,alias (iH i) [])::(iH i,d)::nH E f (i+1) az else(i,d)::nH E f (i+1) az
def ij(E:Env)(f:Nat):Nat->Nat->List Nat
 |_,0=>[]
 |i,n+1=>if E.mode f i=.eF then iH i::ij E f (i+1) n else ij E f (i+1) n
def zx(E:Env)(F:Fr):ResultVar->Option (D×Fr)
 | .tmp t=>c9 E F (.tmp t)
 | .cell a t=>match get F a with
  |box cs=>if cs.length=aY E.P t then match se (h0 E.P t) cs with
   |some d=>if kK d || (E.P.underlying t).isNone then none else some (d,kill (cf F a D.undef) a [])
   |none=>none
   else none
  |_=>none
def sE(E:Env)(F:Fr):List ResultVar->Option (List D×Fr)
 |[]=>some ([],F)
 |r::rs=>match zx E F r with
  |some (d,aX)=>match sE E aX rs with
   |some (az,bN)=>some (d::az,bN)
   |none=>none
  |none=>none
def yk:List D->D
 |[d]=>d
 |az=>bt az
def ow(E:Env)(f:Nat)(fd:Func)(n:Nat)(F:Fr):Option (D×List D):=match sE E F fd.results.toList with
 |some (az,aD)=>if((ij E f 0 n).map (get aD)).all node1 then some (yk az,(ij E f 0 n).map (get aD))else none
 |none=>none
def gR(E:Env):Nat->Nat->List D->Option (D×List D)
 |0,_,_=>none
 |n+1,f,args=>match E.kG f with
  |some p=>match p args with
   |some x=>some x
   |none=>match E.hand f with
    |some q=>fz (gR E n) (q args)
    |none=>none
  |none=>match E.P.funcs[f]? with
   |none=>none
   |some fd=>match fd.body with
    |none=>none
    |some c=>if args.length<=fd.ntmps/\fd.ntmps<1000000 then
      let V:=E.vars f++ij E f 0 args.length
      match eu E f V (gR E n) n c (norm V (nH E f 0 args))with
      |some (.normal,F)=>ow E f fd args.length F
      |some (.ret,F)=>ow E f fd args.length F
      |_=>none
     else none
end Go.aS
