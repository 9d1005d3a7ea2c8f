/- An interpreter of function bodies, sound. No conditions. -/
import Derived.Test.YtockohmmmlhhfabGreatDoorOwn2
set_option linter.all false
namespace Go.Own
open D
def Att:D->Bool
 | lit _ | sl _ | ref _=>true
 | fn _ cs=>!cs.any bad1
 | _=>false
def Adk (E:Env) (F:Fr):Operand->Option D
 | .tmp t=>match get F t with
  | lit v=>some (lit v)
  | sl es=>some (sl es)
  | ref cs=>some (ref cs)
  | fn f cs=>if cs.any bad1 then none else some (fn f cs)
  | agg cs=>if cs.all Att then some (agg cs) else none
  | alias s ps=>match getAt F s ps with
   | some (sl es)=>some (sl es)
   | some (ref cs)=>some (ref cs)
   | _=>none
  | _=>none
 | .const v=>if constOK v then some (constD v) else none
 | .func f=>some (fn f [])
 | .global _=>none
def Abv (E:Env) (F:Fr):List (Nat×Operand)->Option (List (Nat×D))
 | []=>some []
 | (i,x)::r=>match Adk E F x,Abv E F r with
  | some d,some ds=>some ((i,d)::ds)
  | _,_=>none
def imm1 (F:Fr):D->Bool
 | alias s ps=>match getAt F s ps with
  | some (sl _)=>true
  | some (ref _)=>true
  | _=>false
 | sub s ps _ _=>match getAt F s ps with
  | some (sl _)=>true
  | some (ref _)=>true
  | _=>false
 | place ..=>false
 | _=>true
def immD (F:Fr):D->Bool
 | agg cs=>cs.all (imm1 F)
 | fn _ cs=>cs.all (imm1 F)
 | d=>imm1 F d
def Aiz (E:Env) (f n:Nat):Bool:=(List.range n).all fun i=>E.mode f i == .snap
def valC (E:Env) (f:Nat) (call:Nat->List D->Option (D×List D)) (F:Fr) (o:Oper):Option D:=match o.op with
 | .move x=>match x with
  | .tmp t=>match get F t with
   | tup ds=>if ds.all easyD then some (tup ds) else none
   | _=>opd E F x
  | _=>opd E F x
 | .assign x=>match x with
  | .tmp t=>match get F t with
   | lit v=>some (lit v)
   | sl es=>some (sl es)
   | _=>none
  | .const v=>if constOK v then some (constD v) else none
  | _=>none
 | .pick c a b=>match opd E F c with
  | some (lit (.bool t))=>opd E F (if t then a else b)
  | _=>none
 | .alloc t=>match bldT E t with
  | some e=>some (bld t e [])
  | none=>(zeroT E.P t).map fun z=>box z.cells
 | .box t x=>match Adk E F x with
  | some d=>if d.cells.length=sizeT E.P t then some (box d.cells) else none
  | none=>none
 | .build t ps=>match zeroT E.P t,Abv E F ps.toList with
  | some z,some ds=>match E.P.underlying t with
   | some (.array _ e)=>if (E.P.info? e).isSome then (fillD (fun i=>some (i*sizeT E.P e,sizeT E.P e)) z.cells ds).map agg else none
   | some (.struct fs)=>if fs.toList.all fun f=>(E.P.info? f.type).isSome then (fillD (fun i=>(fs[i]?).map fun fd=>(fd.offset,sizeT E.P fd.type)) z.cells ds).map agg else none
   | _=>none
  | _,_=>none
 | .buildSlice t n ps=>match sliceT E.P t with
  | none=>none
  | some e=>match zeroT E.P e,Abv E F ps.toList with
   | some z,some ds=>
    if n*sizeT E.P e<=16777216/\z.cells.length=sizeT E.P e/\0<sizeT E.P e then
     (setElems (sizeT E.P e) (List.replicate n z.cells) ds).map own
    else none
   | _,_=>none
 | .load t x=>match opd E F x with
  | some d=>loadD E F t d
  | none=>none
 | .nilCheck x=>match opd E F x with
  | some (alias s ps)=>match getAt F s ps with
   | some (box _)=>some (alias s ps)
   | some (ref _)=>some (alias s ps)
   | _=>none
  | some (place s ps i c)=>some (place s ps i c)
  | some (ref cs)=>some (ref cs)
  | _=>none
 | .binOp op t x y _=>match opd E F x,opd E F y with
  | some a,some b=>binD E op t a b
  | _,_=>none
 | .unOp op _ x=>match opd E F x with
  | some (lit v)=>(unV op v).map lit
  | _=>none
 | .convert s t x=>match opd E F x with
  | some d=>convertD E F s t d
  | none=>none
 | .makeFunc (.func g) first caps=>if first.isEmpty then (capsD E F caps.toList).map (fn g) else none
 | .makeMap _ none=>some (map [])
 | .makeSlice t l c=>match opd E F l,opd E F c,sliceT E.P t with
  | some dl,some dc,some e=>match asNat dl,asNat dc,zeroT E.P e with
   | some n,some m,some z=>
    if n=m/\m*bytesT E.P e<=281474976710656/\m<=9223372036854775807/\z.cells.length=sizeT E.P e/\0<sizeT E.P e then some (own (List.replicate n z.cells)) else none
   | _,_,_=>none
  | _,_,_=>none
 | .slice t x lo hi none=>match opd E F x,optNat E F lo,optNat E F hi with
  | some d,some l,some h=>sliceD E F t d l h
  | _,_,_=>none
 | .fieldAddr t x j=>match fieldT E.P t j,(opd E F x).bind (ptrOf F) with
  | some fd,some (.imm cs)=>if 0<sizeT E.P fd.type then some (ref (cs.drop fd.offset)) else none
  | some fd,some (.loc s ps i c)=>if 0<sizeT E.P fd.type then some (place s ps i (c+fd.offset)) else none
  | _,_=>none
 | .field t x j=>match fieldT E.P t j,opd E F x with
  | some fd,some (agg cs)=>partD E fd.type cs fd.offset
  | _,_=>none
 | .indexAddr t x ix=>match opd E F x,opd E F ix with
  | some d,some i=>indexAddrD E F t d i
  | _,_=>none
 | .index t x ix=>match opd E F x,(opd E F ix).bind asNat with
  | some (lit (.string s)),some i=>match E.P.underlying t with
   | some .string=>(s[i]?).map fun b=>lit (.int .u8 b.toNat)
   | _=>none
  | some (agg cs),some i=>match arrayT E.P t with
   | some (n,e)=>if i<n then partD E e cs (i*sizeT E.P e) else none
   | none=>none
  | _,_=>none
 | .lookup t x k ok=>match opd E F x,opd E F k with
  | some d,some kd=>lookupD E F t d kd ok
  | _,_=>none
 | .extract (.tmp t) i=>match get F t with
  | tup ds=>(ds[i]?).map fun d=>view t [(0,i)] d
  | _=>none
 | .call c=>match c.callee with
  | .builtin .len=>match c.args.toList,c.argTypes.toList with
   | [x],t::_=>match opd E F x with
    | some d=>lenD E F t d
    | none=>none
   | _,_=>none
  | .builtin .max=>match c.args.toList with
   | [x,y]=>match opd E F x,opd E F y with
    | some a,some b=>intOf2 (fun a b=>if b > a then b else a) [a,b]
    | _,_=>none
   | _=>none
  | .builtin .min=>match c.args.toList with
   | [x,y]=>match opd E F x,opd E F y with
    | some a,some b=>intOf2 (fun a b=>if b<a then b else a) [a,b]
    | _,_=>none
   | _=>none
  | .value x=>match opd E F x with
   | some (fn g caps)=>
    if Aiz E g (argsOf c.args.toList caps.length).length then
     match passRest E g F F x none 0 (argsOf c.args.toList caps.length) ((argsOf c.args.toList caps.length).map fun _=>none) with
     | some ds=>match call g ds with
      | some (r,[])=>if r.flatR || (snapSrcs E g F x 0 (argsOf c.args.toList caps.length)).all (immD F) then coldD (E.eager f (o.dst.getD 0)) r else none
      | _=>none
     | none=>none
    else none
   | _=>none
  | _=>none
 | _=>none
def Abn (ops:Array Oper):Nat->Nat->Nat->Bool
 | 0,_,_=>false
 | n+1,j,i=>match ops[i]? with
  | none=>false
  | some o=>o.after.toList.any fun e=>Region.binds .any e&&decide (e.on<i)&&(e.on == j || (decide (j<e.on)&&Abn ops n j e.on))
def Abe (o:Oper):List Nat:=o.op.operands.toList.filterMap fun | .tmp t=>some t | _=>none
def Agx (ops:Array Oper) (o:Oper):List Nat:=match o.guard with
 | none=>[]
 | some (j,_)=>((ops[j]?).bind (·.dst)).toList
abbrev Blk:=List (Nat×List Nat×Option (List (Nat×Path)))
def Aa9 (ops:Array Oper) (blk:Blk) (i:Nat):List Nat:=(blk.filter fun b=>!Abn ops ops.size b.1 i).flatMap fun b=>b.2.1
def Ab0 (hid:List Nat) (F:Fr):Fr:=F.map fun x=>if hid.contains x.1 then (x.1,D.undef) else x
def Aak (E:Env) (f:Nat) (call:Nat->List D->Option (D×List D)) (ops:Array Oper) (F:Fr) (o:Oper):Option D:=match wantedD ops F o with
 | some true=>valC E f call F o
 | some false=>some (tup [])
 | none=>none
def Abt:D->Bool
 | .undef=>true
 | _=>false
def Ade (F:Fr) (o:Oper):Bool:=match o.dst with
 | none=>true
 | some t=>Abt (get F t)&&F.any fun x=>x.1 == t
def set0 (F:Fr) (dst:Option Nat) (d:D):Fr:=match dst with
 | none=>F
 | some t=>put0 F t d
def Abk (ops:Array Oper) (i:Nat):Bool:=(List.range ops.size).all fun j=>if j<i then Abn ops ops.size j i else if i<j then Abn ops ops.size i j else true
def Afm (blk:Blk) (o:Oper):Bool:=match o.dst with
 | none=>true
 | some t=>blk.all fun b=>!b.2.1.contains t
def Abi (ops:Array Oper) (F:Fr) (o:Oper):Bool:=(Abe o++Agx ops o).all fun t=>!Abt (get F t)
def dstL (o:Oper):List Nat:=o.dst.toList
def Afe (ks:List (Nat×Path)):D->Bool
 | alias s ps=>ks.all fun k=>Nat.blt ps.length k.2.length || !deadAt k.1 k.2 true s ps
 | sub s ps _ _=>ks.all fun k=>Nat.blt ps.length k.2.length || !deadAt k.1 k.2 false s ps
 | place s ps _ _=>ks.all fun k=>Nat.blt ps.length k.2.length || !deadAt k.1 k.2 false s ps
 | _=>true
def Agk (ks:List (Nat×Path)):D->Bool
 | agg cs=>cs.all (Afe ks)
 | fn _ cs=>cs.all (Afe ks)
 | d=>Afe ks d
def Ae4 (ops:Array Oper) (blk:Blk) (i:Nat) (d:D):Bool:=blk.all fun b=>match b.2.2 with
 | none=>true
 | some ks=>Abn ops ops.size b.1 i || Agk ks d
def Ab5:D->Option Nat->Option D
 | box cs,some c=>match cs[c]? with
  | some (lit v)=>some (lit v)
  | _=>none
 | box _,none=>some .undef
 | _,_=>none
def App:Option Nat->Path->Bool
 | some c,(_,c')::_=>!Nat.beq c c'
 | none,_::_=>true
 | _,[]=>false
def Ad7 (o:Oper):Bool:=match o.op with
 | .call c=>match c.callee with
  | .builtin _=>true
  | _=>false
 | _=>false
def Afa (o:Oper):Bool:=match o.op with
 | .assign _=>true
 | _=>false
def Atk (ops:Array Oper) (s:Nat) (c:Option Nat) (i:Nat) (ks:List (Nat×Path)):Bool:=(match ops[i]? with
 | some o=>Ad7 o
 | none=>false)&&ks.all fun k=>!Nat.beq k.1 s || App c k.2
def Anj (ops:Array Oper) (i s:Nat) (c:Option Nat) (b:Nat×List Nat×Option (List (Nat×Path))):Bool:=
 Abn ops ops.size b.1 i || !b.2.1.contains s || (match b.2.2 with
  | some ks=>Atk ops s c b.1 ks
  | none=>false)
def Ans (E:Env) (hid:List Nat) (F:Fr) (o:Oper):Option (Nat×Option Nat):=match o.op,o.guard with
 | .load t (.tmp u),none=>if hid.contains u then none else match get F u with
  | place s [] 0 c=>if Nat.beq (sizeT E.P t) 1&&(Ab5 (get F s) (some c)).isSome then some (s,some c) else none
  | _=>none
 | .fieldAddr _ (.tmp u) _,none=>match get F u with
  | box _=>some (u,none)
  | alias s []=>if hid.contains u then none else if (Ab5 (get F s) none).isSome then some (s,none) else none
  | _=>none
 | _,_=>none
def Ag7 (_:Nat) (_:List D):Option (D×List D):=none
def Aia (E:Env) (f:Nat) (ops:Array Oper) (blk:Blk) (i:Nat) (F:Fr) (o:Oper):Option D:=match Ans E (Aa9 ops blk i) F o with
 | some (s,c)=>if blk.all (Anj ops i s c) then Aak E f Ag7 ops F o else none
 | none=>none
def Aie (s i c k:Nat) (old:List D):List (Nat×Path):=if old.any node1 then (List.range k).map fun j=>(s,[(i,c+j)]) else []
def Acx (E:Env) (F:Fr) (o:Oper):Option ((Nat×D)×List (Nat×Path)):=match o.op with
 | .store t x y=>match o.dst with
  | some _=>none
  | none=>match Adk E F y with
   | none=>none
   | some d=>match opd E F x with
    | some (place s [] i c)=>match get F s with
     | own es=>match es[i]? with
      | some ec=>if (E.P.info? t).isSome/\d.cells.length=sizeT E.P t/\c+sizeT E.P t<=ec.length then some ((s,own (es.set i (ec.take c++d.cells++ec.drop (c+sizeT E.P t)))),Aie s i c (sizeT E.P t) ((ec.drop c).take (sizeT E.P t))) else none
      | none=>none
     | _=>none
    | some (alias s [])=>match get F s with
     | box cs=>if (E.P.info? t).isSome/\d.cells.length=sizeT E.P t/\sizeT E.P t<=cs.length then some ((s,box (d.cells++cs.drop (sizeT E.P t))),Aie s 0 0 (sizeT E.P t) (cs.take (sizeT E.P t))) else none
     | _=>none
    | _=>none
 | _=>none
def Ao0 (F:Fr):Operand->Option (List Nat×List (Nat×Path))
 | .tmp u=>match get F u with
  | own _=>some ([u],[(u,[])])
  | agg cs=>if cs.any ex1&&!cs.any pts1 then some ([u],[(u,[])]) else none
  | alias s ps=>some ([s,u],[(s,ps)])
  | lit _=>some ([],[])
  | sl _=>some ([],[])
  | ref _=>some ([],[])
  | _=>none
 | _=>some ([],[])
def Aj3 (E:Env) (F:Fr):List (Nat×Operand)->Option (List Nat×List (Nat×Path))
 | []=>some ([],[])
 | (_,x)::r=>match Ao0 F x,takeOp E F x with
  | some a,some (_,F1)=>match Aj3 E F1 r with
   | some b=>some (a.1++b.1,a.2++b.2)
   | none=>none
  | _,_=>none
def Akp (E:Env) (F:Fr) (ps:List (Nat×Operand)) (dst:Option Nat):Option (List Nat×Nat×List (Nat×Path)):=match Aj3 E F ps,dst with
 | some b,some t=>some (t::b.1,t,b.2)
 | _,_=>none
def Anx (E:Env) (g:Nat) (F:Fr):Nat->List Operand->Bool
 | _,[]=>true
 | i,x::r=>E.mode g i == .snap&&(match opd E F x with
  | some (lit _)=>true
  | _=>false)&&Anx E g F (i+1) r
def Ajc (E:Env) (F:Fr) (g:Nat) (xs:List Operand) (dst:Option Nat):Option (List Nat×Nat×List (Nat×Path)):=match xs,dst with
 | .tmp u::rest,some t=>match get F u with
  | alias s []=>if E.mode g 0 == .inout&&(get F s).ex1&&Anx E g F 1 rest then some ([s,u,t],s,[(s,[])]) else none
  | _=>none
 | _,_=>none
def Aov (F:Fr) (x:Operand) (dst:Option Nat):Option (List Nat×Nat×List (Nat×Path)):=match x,dst with
 | .tmp u,some t=>match get F u with
  | alias s ps=>match getAt F s ps with
   | some (own _)=>some ([s,u,t],t,[(s,ps),(t,[])])
   | _=>none
  | _=>none
 | _,_=>none
def Ad5 (E:Env) (F:Fr) (o:Oper):Option (List Nat×Nat×List (Nat×Path)):=match o.op with
 | .call c=>match c.callee with
  | .builtin .append=>match c.args.toList,o.dst with
   | [.tmp t0,.tmp t1],some t=>match get F t0 with
    | own _=>some ([t0,t],t1,[(t0,[]),(t1,[])])
    | alias s ps=>some ([s,t0,t],t1,[(s,ps),(t1,[])])
    | _=>none
   | _,_=>none
  | .value (.func g)=>Ajc E F g c.args.toList o.dst
  | _=>none
 | .assign x=>Aov F x o.dst
 | .build _ ps=>Akp E F ps.toList o.dst
 | .buildSlice _ _ ps=>Akp E F ps.toList o.dst
 | _=>none
def putsF:List (Nat×D)->Fr->Fr
 | [],F=>F
 | (t,d)::r,F=>putsF r (put0 F t d)
def Aai (z:List Nat×Nat×List (Nat×Path)) (F':Fr):List (Nat×D):=(z.1++if Abt (get F' z.2.1) then [z.2.1] else []).map fun k=>(k,get F' k)
def Aj0 (E:Env) (F:Fr) (o:Oper):Option (List (Nat×D)×List (Nat×Path)):=match o.op with
 | .store t (.tmp u) (.tmp w)=>match o.dst with
  | some _=>none
  | none=>match get F w,get F u with
   | own es,place s [] 0 c=>match get F s with
    | box cs=>if (E.P.info? t).isSome/\sizeT E.P t=1/\c+1<=cs.length/\(((cs.drop c).take 1).any node1)=false then some ([(s,box (cs.take c++[own es]++cs.drop (c+1))),(w,.undef)],[(w,[])]) else none
    | _=>none
   | _,_=>none
 | _=>none
def effC (E:Env) (f:Nat) (V:List Nat) (call:Nat->List D->Option (D×List D)) (F:Fr) (o:Oper):Option (List (Nat×D)×List (Nat×Path)):=match Acx E F o with
 | some r=>some ([r.1],r.2)
 | none=>match Aj0 E F o with
  | some r=>some r
  | none=>match Ad5 E F o,opC E f V call F o with
   | some z,some F'=>some (Aai z F',z.2.2)
   | _,_=>none
def hasP (p:List (Nat×D)) (k:Nat):Bool:=p.any fun x=>x.1 == k
def Arr:D->D->Bool
 | alias s ps,alias s' ps'=>Nat.beq s s'&&ps == ps'
 | place s ps i c,place s' ps' i' c'=>Nat.beq s s'&&(ps == ps'&&(Nat.beq i i'&&Nat.beq c c'))
 | _,_=>false
def again (E:Env) (f:Nat) (ops:Array Oper) (blk:Blk) (F:Fr) (p:List (Nat×D)) (b:Nat×List Nat×Option (List (Nat×Path))):Bool:=match ops[b.1]? with
 | none=>false
 | some o=>
  ((Aak E f Ag7 ops (Ab0 (p.map (·.1)++Aa9 ops blk b.1) F) o).isSome&&Abi ops (Ab0 (p.map (·.1)++Aa9 ops blk b.1) F) o) ||
  (match Aak E f Ag7 ops (putsF p (Ab0 (Aa9 ops blk b.1) F)) o,Aak E f Ag7 ops (Ab0 (Aa9 ops blk b.1) F) o with
   | some d,some d'=>Arr d d'&&Abi ops (putsF p (Ab0 (Aa9 ops blk b.1) F)) o&&Abi ops (Ab0 (Aa9 ops blk b.1) F) o
   | _,_=>false)
def Aqk:List Nat->Bool
 | []=>true
 | k::r=>!r.contains k&&Aqk r
def Abu:D->List Nat
 | alias s _=>[s]
 | sub s _ _ _=>[s]
 | place s _ _ _=>[s]
 | _=>[]
def Av3 (o:Oper):Bool:=match o.op with
 | .move (.tmp _)=>true
 | .load _ (.tmp _)=>true
 | .indexAddr _ (.tmp _) (.tmp _)=>true
 | .indexAddr _ (.tmp _) (.const _)=>true
 | .fieldAddr _ (.tmp _) _=>true
 | _=>false
def Apo (ops:Array Oper) (blk:Blk) (F:Fr) (p:List (Nat×D)) (j:Nat):Bool:=match ops[j]? with
 | none=>false
 | some o=>Av3 o&&o.guard.isNone&&(Abe o).all fun u=>!(Aa9 ops blk j).contains u&&!Abt (get F u)&&!hasP p u&&(Abu (get F u)).all fun s=>!hasP p s
def Awu (F:Fr) (o:Oper):Bool:=Afa o&&(match o.dst with
 | none=>false
 | some t=>!Abt (get F t))
def Apn (E:Env) (ops:Array Oper) (blk:Blk) (i:Nat) (F:Fr) (p:List (Nat×D)) (ks:List (Nat×Path)) (j:Nat):Bool:=match ops[j]? with
 | none=>false
 | some o=>match Ans E (Aa9 ops blk j) F o with
  | some (s,c)=>Atk ops s c i ks&&blk.all (Anj ops j s c)&&(Abe o).all fun u=>Nat.beq u s || !hasP p u
  | none=>false
def Atn (E:Env) (f:Nat) (ops:Array Oper) (blk:Blk) (i:Nat) (F:Fr) (o:Oper) (p:List (Nat×D)) (ks:List (Nat×Path)):Bool:=
 Abi ops (Ab0 (Aa9 ops blk i) F) o&&(Ade F o || Awu (Ab0 (Aa9 ops blk i) F) o)&&Afm blk o&&Aqk (F.map (·.1))&&F.all (fun x=>hasP p x.1 || Agk ks x.2)&&p.all (fun x=>F.any fun y=>y.1 == x.1)&&(match o.dst with | none=>true | some t=>hasP p t) &&
 blk.all fun b=>Abn ops ops.size b.1 i || (b.2.2.isNone&&(b.2.1.all (fun k=>!hasP p k)&&(Apo ops blk F p b.1 || (again E f ops blk F p b || Apn E ops blk i F p ks b.1))))
def effS (E:Env) (f:Nat) (V:List Nat) (call:Nat->List D->Option (D×List D)) (ops:Array Oper) (blk:Blk) (i:Nat) (F:Fr) (o:Oper):Option (Blk×Fr):=match Aia E f ops blk i F o with
 | some d=>if Ade F o&&Afm blk o&&Ae4 ops blk i d then some ((i,dstL o,none)::blk,set0 F o.dst d) else none
 | none=>match wantedD ops (Ab0 (Aa9 ops blk i) F) o with
 | some true=>match effC E f V call (Ab0 (Aa9 ops blk i) F) o with
  | some r=>if Atn E f ops blk i F o r.1 r.2 then some ((i,r.1.map (·.1),some r.2)::blk,putsF r.1 F) else none
  | none=>none
 | _=>none
def Abz (E:Env) (f:Nat) (V:List Nat) (call:Nat->List D->Option (D×List D)) (ops:Array Oper):List Nat->Blk->Fr->Option Fr
 | [],_,F=>some F
 | i::r,blk,F=>match ops[i]? with
  | none=>none
  | some o=>if Abk ops i then match wantedD ops F o with
    | some true=>match opC E f V call F o with
     | some F'=>Abz E f V call ops r [] F'
     | none=>none
    | some false=>Abz E f V call ops r [] (fin F o.dst (tup []))
    | none=>none
   else match Aak E f call ops (Ab0 (Aa9 ops blk i) F) o with
    | some d=>
     if Abi ops (Ab0 (Aa9 ops blk i) F) o&&Ade F o&&Afm blk o&&Ae4 ops blk i d then Abz E f V call ops r ((i,dstL o,none)::blk) (set0 F o.dst d)
     else none
    | none=>match effS E f V call ops blk i F o with
     | some b=>Abz E f V call ops r b.1 b.2
     | none=>none
def Abc (F:Fr):List Oper->Fr
 | []=>F
 | o::r=>match o.op,o.dst with
  | .assign _,some t=>bif Abt (get F t) then Abc (put F t D.undef) r else Abc F r
  | .assign _,none=>Abc F r
  | _,some t=>Abc (put F t D.undef) r
  | _,none=>Abc F r
def Aeu (ops:Array Oper):Bool:=(List.range ops.size).all fun i=>match ops[i]? with
 | some o=>o.after.toList.all fun e=>!Region.binds .any e || decide (e.on<i)
 | none=>true
def regC (E:Env) (f:Nat) (V:List Nat) (call:Nat->List D->Option (D×List D)) (ops:Array Oper) (draw:Bool) (F:Fr):Option Fr:=
 if draw then
  if Aeu ops&&ops.toList.all (fun o=>match o.op with | .select ..=>false | _=>true) then (Abz E f V call ops (List.range ops.size) [] (Abc F ops.toList)).map (norm V) else none
 else (opsC E f V call ops (List.range ops.size) F).map (norm V)
def trim0 (E:Env) (f:Nat) (V:List Nat) (kind key:Nat) (F:Fr):Fr:=match E.keep f kind key with
 | none=>F
 | some K=>norm (V.filter fun s=>Nat.ble 1000000 s || K.contains s) F
def chillS (F:Fr) (s c:Nat):Nat->Fr
 | 0=>F
 | n+1=>match frzAt (chillS F s c n) s [(n,c)] with
  | some F'=>F'
  | none=>chillS F s c n
def chillC (F:Fr) (s:Nat):Nat->Fr
 | 0=>F
 | n+1=>match frzAt (chillC F s n) s [(0,n)] with
  | some F'=>F'
  | none=>chillC F s n
def Aps (F:Fr) (s c:Nat):Fr:=match get F s with
 | own es=>if c=1000 then (frzAt F s []).getD F else chillS F s c es.length
 | agg cs=>chillC F s cs.length
 | box cs=>chillC F s cs.length
 | _=>F
def chillAll:List (Nat×Nat)->Fr->Fr
 | [],F=>F
 | (s,c)::r,F=>chillAll r (Aps F s c)
def trim (E:Env) (f:Nat) (V:List Nat) (kind key:Nat) (F:Fr):Fr:=chillAll (E.chill f kind key) (trim0 E f V kind key F)
def Ahe:Operand->Nat
 | .tmp t=>t
 | _=>0
def Aae (E:Env) (f:Nat) (V:List Nat) (call:Nat->List D->Option (D×List D)) (n:Nat):Code->Fr->Option (Ex×Fr)
 | .skip,F=>some (.normal,F)
 | .region id ops draw,F=>(regC E f V call ops draw F).map fun F'=>(.normal,trim E f V 0 id F')
 | .seq a b,F=>match Aae E f V call n a F with
  | some (.normal,F')=>Aae E f V call n b F'
  | r=>r
 | .cond x a b,F=>match opd E F x with
  | some (lit (.bool t))=>if t then Aae E f V call n a (trim E f V 1 (Ahe x) F) else Aae E f V call n b (trim E f V 2 (Ahe x) F)
  | _=>none
 | .block id b,F=>match Aae E f V call n b F with
  | some (.exit i,F')=>if i=id then some (.normal,F') else some (.exit i,F')
  | r=>r
 | .loop b,F=>iter n (Aae E f V call n b) F
 | .exit id,F=>some (.exit id,trim E f V 3 id F)
 | .ret,F=>some (.ret,F)
 | _,_=>none
def Adj (E:Env) (f:Nat):Nat->List D->Fr
 | _,[]=>[]
 | i,d::ds=>if E.mode f i=.inout then (i,alias (lent i) [])::(lent i,d)::Adj E f (i+1) ds else (i,d)::Adj E f (i+1) ds
def Ac3 (E:Env) (f:Nat):Nat->Nat->List Nat
 | _,0=>[]
 | i,n+1=>if E.mode f i=.inout then lent i::Ac3 E f (i+1) n else Ac3 E f (i+1) n
def resC (E:Env) (F:Fr):ResultVar->Option (D×Fr)
 | .tmp t=>takeOp E F (.tmp t)
 | .cell a t=>match get F a with
  | box cs=>if cs.length=sizeT E.P t then match ofCells (isAggT E.P t) cs with
   | some d=>if Abt d || (E.P.underlying t).isNone then none else some (d,kill (put0 F a D.undef) a [])
   | none=>none
   else none
  | _=>none
def Ad8 (E:Env) (F:Fr):List ResultVar->Option (List D×Fr)
 | []=>some ([],F)
 | r::rs=>match resC E F r with
  | some (d,F1)=>match Ad8 E F1 rs with
   | some (ds,F2)=>some (d::ds,F2)
   | none=>none
  | none=>none
def Ats:List D->D
 | [d]=>d
 | ds=>tup ds
def Af0 (E:Env) (f:Nat) (fd:Func) (n:Nat) (F:Fr):Option (D×List D):=match Ad8 E F fd.results.toList with
 | some (ds,F')=>if ((Ac3 E f 0 n).map (get F')).all node1 then some (Ats ds,(Ac3 E f 0 n).map (get F')) else none
 | none=>none
def Ab8 (E:Env):Nat->Nat->List D->Option (D×List D)
 | 0,_,_=>none
 | n+1,f,args=>match E.prim f with
  | some p=>match p args with
   | some x=>some x
   | none=>match E.hand f with
    | some q=>runAsk (Ab8 E n) (q args)
    | none=>none
  | none=>match E.P.funcs[f]? with
   | none=>none
   | some fd=>match fd.body with
    | none=>none
    | some c=>if args.length<=fd.ntmps/\fd.ntmps<1000000 then
      let V:=E.vars f++Ac3 E f 0 args.length
      match Aae E f V (Ab8 E n) n c (norm V (Adj E f 0 args)) with
      | some (.normal,F)=>Af0 E f fd args.length F
      | some (.ret,F)=>Af0 E f fd args.length F
      | _=>none
     else none
end Go.Own
