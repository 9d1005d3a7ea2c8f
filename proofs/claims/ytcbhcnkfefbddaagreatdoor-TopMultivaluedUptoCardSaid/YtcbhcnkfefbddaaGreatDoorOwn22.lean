/- An interpreter of function bodies, sound. No conditions. -/
import Derived.Test.YtcbhcnkfefbddaaGreatDoorOwn21
set_option linter.all false
open Prod.mk renaming injEq->aA
open Option renaming isSome_iff_exists->aM,isNone_iff_eq_none->ba,map_some->bL,map_eq_some_iff->cc,bind_some->cD
open Bool renaming and_eq_true->aQ,and_self->cu,false_eq_true->cz,not_false->cA
open Nat renaming eq_of_beq_eq_true->a6,beq->bo,le_of_ble_eq_true->bB,ble->b3,blt->b5
open List renaming getElem?_map->cx
namespace Go.aS
open D
section
variable{E:Env}{f:Nat}{V:List Nat}{Q:dU->Fr->Prop}{m:cL}{O:Type}{A B:Prop}{c:Prop}[Decidable c]
theorem b2{body:Code}{p:List Nat}{F:Fr}(h:c3 E f V Q (.gv (go body p []) F)):ee E f V body p F Q:=h.out
theorem a1(n:Nat){body:Code}{p:List Nat}{F:Fr}(h:ee E f V body p F Q)(K:runM E f V n m=.gv (go body p []) F:=by kernel_rfl):c3 E f V Q m:=by
 refine runK n m ?_;rw[K];exact⟨h⟩
def akS(E:Env)(f:Nat)(V:List Nat):cL->Fr
 | .gv (.exit id,_) F=>trim E f V 3 id F
 | .gv _ F=>F
 | .op id _ _ _ _ s=>trim E f V 0 id (norm V s.2)
 | .bad=>[]
def IZ:cL->Bool
 | .gv (.ret,_) _=>true
 | .gv (.skip,ks) _=>(mX ks).isNone
 | .gv (.exit id,ks) _=>match uv id ks with
  |some oT=>(mX oT).isNone
  |none=>false
 | .op _ ops _ ks j _=>bo ops.size j&&(mX ks).isNone
 |_=>false
theorem a7(n:Nat){fd:Func}{N:Nat}{ρ:Type}{res:ρ->D×List D}{J:ρ->Prop}{r:ρ}(h:J r)(hl:ow E f fd N (akS E f V (runM E f V n m))=some (res r):=by kernel_rfl)(K:IZ (runM E f V n m)=true:=by kernel_rfl):c3 E f V (ec E f fd N res J) m:=by
 refine runK n m ?_;generalize runM E f V n m=k4 at hl K;cases k4 with
 |bad=>cases K
 |gv c F=>
  obtain⟨c,ks⟩:=c;cases c with
  |ret=>exact⟨hx.ret (GR ⟨r,hl,h⟩)⟩
  |skip=>
   simp only[IZ,ba]at K;exact⟨hx.skip (GQ K ⟨r,hl,h⟩)⟩
  |exit id=>
   simp only[IZ]at K
   split at K
   .rename_i oT aj;rw[ba]at K;exact⟨hx.exit (CW aj (GQ K ⟨r,hl,h⟩))⟩
   .cases K
  |_=>cases K
 |op id ops draw ks j s=>
  simp only[IZ,aQ,ba]at K;have aH:ops.size=j:=a6 K.1;refine⟨s.2,⟨0,λn _=>?_⟩,GQ K.2 ⟨r,hl,h⟩⟩;rw[List.drop_eq_nil_iff.2 (by simp[aH])];simp only[wI,j0,fQ,ite_self]
theorem akP{fd:Func}{body:Code}{az:List D}{ρ:Type}{res:ρ->D×List D}{J:ρ->Prop}(h:c3 E f V (ec E f fd az.length res J) (.gv (rI body []) (norm V (nH E f 0 az))))
  (af:E.kG f=none:=by kernel_rfl) (hf:E.P.funcs[f]?=some fd:=by kernel_rfl) (ag:fd.body=some body:=by kernel_rfl) (hl:(b3 az.length fd.ntmps&&b5 fd.ntmps 1000000)=true:=by kernel_rfl) (dZ:E.vars f++ij E f 0 az.length=V:=by kernel_rfl):∃r,J r/\bR E f az (res r).1 (res r).2:=by
 subst dZ;rw[aQ]at hl;obtain⟨e,aX,I,aa⟩:=x9 body [] h.out;simp only[qU]at aa;have pF:az.length<=fd.ntmps/\fd.ntmps<1000000:=⟨bB hl.1,bB hl.2⟩
 cases e with
 |exit i=>exact aa.elim
 |normal=>obtain⟨r,aB,aW⟩:=aa;exact⟨r,aW,bR.Xb af hf ag pF rfl ⟨_,aX,I,aB⟩⟩
 |ret=>obtain⟨r,aB,aW⟩:=aa;exact⟨r,aW,bR.Xb af hf ag pF rfl ⟨_,aX,I,aB⟩⟩
theorem cw{E:Env}{f:Nat}(fd:Func)(body:Code)(V:List Nat){az:List D}{ρ:Type}(res:ρ->D×List D){J:ρ->Prop}(h:c3 E f V (ec E f fd az.length res J) (.gv (rI body []) (norm V (nH E f 0 az))))
  (af:E.kG f=none:=by kernel_rfl) (hf:E.P.funcs[f]?=some fd:=by kernel_rfl) (ag:fd.body=some body:=by kernel_rfl) (hl:(b3 az.length fd.ntmps&&b5 fd.ntmps 1000000)=true:=by kernel_rfl) (dZ:E.vars f++ij E f 0 az.length=V:=by kernel_rfl):∃r,J r/\bR E f az (res r).1 (res r).2:=
 akP (V:=V) h af hf ag hl dZ
theorem fe(n:Nat){d:D}(av:dJ E f lO (ek (runM E f V n m)) (bV (runM E f V n m))=some d)(k:c3 E f V Q (mL (runM E f V n m) d))(K:o6 (runM E f V n m)=true:=by kernel_rfl):c3 E f V Q m:=
 runK n m ⟨agf K av k.out⟩
theorem vn(n:Nat){aD:Fr}(av:cV E f V lO (dc (runM E f V n m)) (bV (runM E f V n m))=some aD)(k:c3 E f V Q (vo (runM E f V n m) aD))(K:pV (runM E f V n m)=true:=by kernel_rfl):c3 E f V Q m:=
 runK n m ⟨akT K av k.out⟩
theorem bn(n:Nat){b:Bool}(h:if c then A else B)(zA:b=true->c)(yE:b=false->¬c)
  (b9:A->c3 E f V Q (mL (runM E f V n m) (lit (.bool true)))) (k2:B->c3 E f V Q (mL (runM E f V n m) (lit (.bool false))))
  (av:dJ E f lO (ek (runM E f V n m)) (bV (runM E f V n m))=some (lit (.bool b)):=by kernel_rfl) (K:o6 (runM E f V n m)=true:=by kernel_rfl):c3 E f V Q m:=by
 cases b with
 |true=>rw[if_pos (zA rfl)]at h;exact fe n av (b9 h) K
 |false=>rw[if_neg (yE rfl)]at h;exact fe n av (k2 h) K
theorem g5(n:Nat){b:Bool}(h:if c then A else B)(zA:b=true->¬c)(yE:b=false->c)
  (b9:B->c3 E f V Q (mL (runM E f V n m) (lit (.bool true)))) (k2:A->c3 E f V Q (mL (runM E f V n m) (lit (.bool false))))
  (av:dJ E f lO (ek (runM E f V n m)) (bV (runM E f V n m))=some (lit (.bool b)):=by kernel_rfl) (K:o6 (runM E f V n m)=true:=by kernel_rfl):c3 E f V Q m:=by
 cases b with
 |true=>rw[if_neg (zA rfl)]at h;exact fe n av (b9 h) K
 |false=>rw[if_pos (yE rfl)]at h;exact fe n av (k2 h) K
def Hd(E:Env):cL->Option D
 | .gv (.cond y _ _,_) F=>aZ E F y
 |_=>none
def EX(E:Env)(f:Nat)(V:List Nat)(t:Bool):cL->cL
 | .gv (.cond y a b,ks) F=>bif t then .gv (rI a ks) (trim E f V 1 (wo y) F)else .gv (rI b ks) (trim E f V 2 (wo y) F)
 |_=>.bad
theorem I2{b:Bool}(av:Hd E m=some (lit (.bool b)))(k:c3 E f V Q (EX E f V b m)):c3 E f V Q m:=by
 refine⟨Gx m ?_⟩;unfold Hd at av
 split at av
 .simp only[sM,av];exact k.out
 .cases av
theorem oV(n:Nat){b:Bool}(h:if c then A else B)(zA:b=true->c)(yE:b=false->¬c)
  (b9:A->c3 E f V Q (EX E f V true (runM E f V n m))) (k2:B->c3 E f V Q (EX E f V false (runM E f V n m)))
  (av:Hd E (runM E f V n m)=some (lit (.bool b)):=by kernel_rfl):c3 E f V Q m:=by
 refine runK n m ?_;cases b with
 |true=>rw[if_pos (zA rfl)]at h;exact I2 av (b9 h)
 |false=>rw[if_neg (yE rfl)]at h;exact I2 av (k2 h)
theorem UC(n:Nat){b:Bool}(h:if c then A else B)(zA:b=true->¬c)(yE:b=false->c)
  (b9:B->c3 E f V Q (EX E f V true (runM E f V n m))) (k2:A->c3 E f V Q (EX E f V false (runM E f V n m)))
  (av:Hd E (runM E f V n m)=some (lit (.bool b)):=by kernel_rfl):c3 E f V Q m:=by
 refine runK n m ?_;cases b with
 |true=>rw[if_neg (zA rfl)]at h;exact I2 av (b9 h)
 |false=>rw[if_pos (yE rfl)]at h;exact I2 av (k2 h)
def Vi:cL->Nat
 | .gv (.exit id,_) _=>id
 |_=>0
def M4:cL->Option (Code×List ki)
 | .gv (.exit id,ks) _=>match uv id ks with
  |some oT=>mX oT
  |none=>none
 |_=>none
theorem I1(n:Nat)(aD:Fr)(e2:trim E f V 3 (Vi (runM E f V n m)) (dc (runM E f V n m))=aD)(k:c3 E f V Q (.gv ((M4 (runM E f V n m)).getD (.ret,[])) aD))(K:(M4 (runM E f V n m)).isSome=true:=by kernel_rfl):c3 E f V Q m:=by
 refine runK n m ⟨Gx _ ?_⟩;generalize runM E f V n m=k4 at e2 k K;unfold M4 at k K
 split at k
 .simp only[Vi,dc]at e2;simp only at k K;simp only[sM]
  split at k
  .rename_i hM;rw[hM]at K;simp only[hM];obtain⟨c,ad⟩:=aM.1 K;simp only at ad;rw[ad]at k;simp only[ad,e2];exact k.out
  .rename_i hM;rw[hM]at K;cases K
 .simp only at K;cases K
def DE:Option D->Option Int
 |some (lit (.int _ n))=>some n
 |_=>none
theorem Any{d:Option D}{i:Int}(h:DE d=some i):∃q,d=some (lit (.int q i)):=by
 unfold DE at h
 split at h
 .rename_i q n;simp only[aE]at h;subst h;exact⟨q,rfl⟩
 .cases h
def IN(E:Env)(F:Fr)(o:Oper):Option (List (List D)×Int×Nat):=match o.op with
 | .indexAddr t x ix=>match aZ E F x,DE (aZ E F ix),eD E.P t with
  |some (sl es),some i,some et=>some (es,i,aY E.P et)
  |some (alias s ps),some i,some et=>match b6 F s ps with
   |some (sl es)=>some (es,i,aY E.P et)
   |_=>none
  |_,_,_=>none
 |_=>none
theorem adn{F:Fr}{o:Oper}{e:dE O}{l:List O}{i:Int}{k:Nat}{a:O}(cg:IN E F o=some (l.map e,i,k))(h:a_ l i=some a)(aj:(e a).length=k):dJ E f lO F o=some (.ref (e a)):=by
 unfold IN at cg
 split at cg
 .rename_i t x ix an
  split at cg
  .rename_i es kA et U hi al;simp only[aE,aA]at cg;obtain⟨rfl,rfl,rfl⟩:=cg;obtain⟨q,au⟩:=Any hi;exact Kq an U au al rfl h aj
  .rename_i s ps kA et U hi al
   split at cg
   .rename_i es ak;simp only[aE,aA]at cg;obtain⟨rfl,rfl,rfl⟩:=cg;obtain⟨q,au⟩:=Any hi;exact Y1 an U ak au al rfl h aj
   .cases cg
  .cases cg
 .cases cg
theorem xo(n:Nat)(e:dE O){l:List O}{i:Int}{a:O}(h:a_ l i=some a)
  (k:c3 E f V Q (mL (runM E f V n m) (.ref (e a))))
  (K:(o6 (runM E f V n m),IN E (ek (runM E f V n m)) (bV (runM E f V n m)))=(true,some (l.map e,i,(e a).length)):=by kernel_rfl):c3 E f V Q m:=by
 simp only[aA]at K;exact fe n (adn K.2 h rfl) k K.1
theorem eA(n:Nat)(e:dE O){l:List O}{i:Int}{R:O->Prop}(h:∃a,a_ l i=some a/\R a)
  (k:∀a,a_ l i=some a->R a->c3 E f V Q (mL (runM E f V n m) (.ref (e a))))
  (K:∀a,(o6 (runM E f V n m),IN E (ek (runM E f V n m)) (bV (runM E f V n m)))=(true,some (l.map e,i,(e a).length)):=by intro;kernel_rfl):c3 E f V Q m:=by
 obtain⟨a,I,aa⟩:=h;exact xo n e I (k a I aa) (K a)
def zj(E:Env)(F:Fr)(o:Oper):Option (Nat×Path×List (List D)×Int×Nat):=match o.op with
 | .indexAddr t x ix=>match aZ E F x,DE (aZ E F ix),eD E.P t with
  |some (alias s ps),some i,some et=>match b6 F s ps with
   |some (own es)=>some (s,ps,es,i,aY E.P et)
   |_=>none
  |_,_,_=>none
 |_=>none
def OO(x:Option (Nat×Path×List (List D)×Int×Nat)):Option (List (List D)×Int×Nat):=x.map λy=>y.2.2
def ON(x:Option (Nat×Path×List (List D)×Int×Nat))(i:Int):D:=match x with
 |some (s,ps,_,_,_)=>.place s ps i.toNat 0
 |none=>.undef
theorem ado{F:Fr}{o:Oper}{e:dE O}{l:List O}{i:Int}{k:Nat}{a:O}(cg:OO (zj E F o)=some (l.map e,i,k))(h:a_ l i=some a)(aj:(e a).length=k):dJ E f lO F o=some (ON (zj E F o) i):=by
 obtain⟨⟨s,ps,es,kA,k'⟩,I,aa⟩:=cc.1 cg;simp only[aA]at aa;obtain⟨rfl,rfl,rfl⟩:=aa;rw[I];unfold zj at I
 split at I
 .rename_i t x ix an
  split at I
  .rename_i bk pW i2 et U hi al
   split at I
   .rename_i es ak;simp only[aE,aA]at I;obtain⟨rfl,rfl,rfl,rfl,rfl⟩:=I;obtain⟨q,au⟩:=Any hi;exact zQ an U ak au al rfl h aj
   .cases I
  .cases I
 .cases I
theorem ic(n:Nat)(e:dE O){l:List O}{i:Int}{a:O}(h:a_ l i=some a)
  (k:c3 E f V Q (mL (runM E f V n m) (ON (zj E (ek (runM E f V n m)) (bV (runM E f V n m))) i)))
  (K:(o6 (runM E f V n m),OO (zj E (ek (runM E f V n m)) (bV (runM E f V n m))))=(true,some (l.map e,i,(e a).length)):=by kernel_rfl):c3 E f V Q m:=by
 simp only[aA]at K;exact fe n (ado K.2 h rfl) k K.1
theorem cG(n:Nat)(e:dE O){l:List O}{i:Int}{R:O->Prop}(h:∃a,a_ l i=some a/\R a)
  (k:∀a,a_ l i=some a->R a->c3 E f V Q (mL (runM E f V n m) (ON (zj E (ek (runM E f V n m)) (bV (runM E f V n m))) i)))
  (K:∀a,(o6 (runM E f V n m),OO (zj E (ek (runM E f V n m)) (bV (runM E f V n m))))=(true,some (l.map e,i,(e a).length)):=by intro;kernel_rfl):c3 E f V Q m:=by
 obtain⟨a,I,aa⟩:=h;exact ic n e I (k a I aa) (K a)
def IV(E:Env)(F:Fr)(o:Oper):Option (List (List D)×Nat):=match o.op with
 | .load t x=>match aZ E F x with
  |some (place s ps n _)=>match b6 F s ps with
   |some (own es)=>bif (E.P.underlying t).isNone then none else some (es,n)
   |_=>none
  |_=>none
 |_=>none
def ET(E:Env)(F:Fr)(o:Oper)(cs:List D):Option D:=match o.op with
 | .load t x=>match aZ E F x with
  |some (place s ps n c)=>if c+aY E.P t<=cs.length then se (h0 E.P t) (xK s ps n c ((cs.drop c).take (aY E.P t)))else none
  |_=>none
 |_=>none
theorem TW{F:Fr}{o:Oper}{e:dE O}{l:List O}{n:Nat}{a:O}{d:D}(cg:IV E F o=some (l.map e,n))(h:l[n]?=some a)(ah:ET E F o (e a)=some d):dJ E f lO F o=some d:=by
 unfold IV at cg;unfold ET at ah
 split at cg
 .rename_i t x an;simp only[an]at ah
  split at cg
  .rename_i s ps eG c U;simp only[U]at ah
   split at cg
   .rename_i es ak;cases hu:(E.P.underlying t).isNone with
    |true=>rw[hu]at cg;cases cg
    |false=>
     rw[hu]at cg;simp only[cond_false,aE,aA]at cg;obtain⟨rfl,rfl⟩:=cg;exact zL an U ak hu h ah
   .cases cg
  .cases cg
 .cases cg
theorem cY(n:Nat)(e:dE O){l:List O}{i:Int}{a:O}(h:a_ l i=some a)
  (k:c3 E f V Q (mL (runM E f V n m) ((ET E (ek (runM E f V n m)) (bV (runM E f V n m)) (e a)).getD .undef)))
  (K:(o6 (runM E f V n m),IV E (ek (runM E f V n m)) (bV (runM E f V n m)),(ET E (ek (runM E f V n m)) (bV (runM E f V n m)) (e a)).isSome)=(true,some (l.map e,i.toNat),true):=by kernel_rfl):c3 E f V Q m:=by
 simp only[aA]at K;obtain⟨d,ah⟩:=aM.1 K.2.2;rw[ah]at k;exact fe n (TW K.2.1 (hd h).2 ah) k K.1
theorem akQ(n:Nat){l:List Bool}{i:Int}{a:Bool}(h:a_ l i=some a)(hi:if a=true then A else B)
  (b9:A->c3 E f V Q (mL (runM E f V n m) (.lit (.bool true)))) (k2:B->c3 E f V Q (mL (runM E f V n m) (.lit (.bool false))))
  (K:(o6 (runM E f V n m),IV E (ek (runM E f V n m)) (bV (runM E f V n m)),ET E (ek (runM E f V n m)) (bV (runM E f V n m)) (wX a))=(true,some (l.map wX,i.toNat),some (.lit (.bool a))):=by kernel_rfl):c3 E f V Q m:=by
 simp only[aA]at K;have av:=TW (f:=f) K.2.1 (hd h).2 K.2.2;cases a with
 |true=>rw[if_pos rfl]at hi;exact fe n av (b9 hi) K.1
 |false=>rw[if_neg (by decide)]at hi;exact fe n av (k2 hi) K.1
def OT(E:Env)(F:Fr)(o:Oper):Option (List (List D)):=match o.op with
 | .call c=>match c.callee,c.args.toList,c.argTypes.toList with
  | .builtin .len,[x],[t]=>match aZ E F x,eD E.P t with
   |some d,some _=>gU F d
   |_,_=>none
  |_,_,_=>none
 |_=>none
theorem acq{F:Fr}{o:Oper}{e:dE O}{l:List O}(cg:OT E F o=some (l.map e)):dJ E f lO F o=some (.lit (.int .i64 l.length)):=by
 unfold OT at cg
 split at cg
 .rename_i c an
  split at cg
  .rename_i x t ad aC al
   split at cg
   .rename_i d et U ae;obtain⟨agP,hK,tys⟩:=c;simp only at ad aC al;obtain⟨hK⟩:=hK;obtain⟨tys⟩:=tys;simp only at aC al;subst aC;subst al;subst ad;exact GW an U cg ae
   .cases cg
  .cases cg
 .cases cg
theorem c1(n:Nat)(e:dE O)(l:List O)(k:c3 E f V Q (mL (runM E f V n m) (.lit (.int .i64 l.length))))
  (K:(o6 (runM E f V n m),OT E (ek (runM E f V n m)) (bV (runM E f V n m)))=(true,some (l.map e)):=by kernel_rfl):c3 E f V Q m:=by
 simp only[aA]at K;exact fe n (acq K.2) k K.1
def XB(E:Env)(F:Fr)(o:Oper):Option (ByteArray×Int):=match o.op with
 | .index t x ix=>match aZ E F x,DE (aZ E F ix),E.P.underlying t with
  |some (lit (.string s)),some i,some .string=>some (s,i)
  |_,_,_=>none
 |_=>none
theorem xp(n:Nat){s:ByteArray}{i:Int}{R:UInt8->Prop}(h:∃b,(0<=i/\s[i.toNat]?=some b)/\R b)
  (k:∀b,R b->c3 E f V Q (mL (runM E f V n m) (.lit (.int .u8 b.toNat))))
  (K:(o6 (runM E f V n m),XB E (ek (runM E f V n m)) (bV (runM E f V n m)))=(true,some (s,i)):=by kernel_rfl):c3 E f V Q m:=by
 obtain⟨b,⟨aO,I⟩,aa⟩:=h;simp only[aA]at K;refine fe n ?_ (k b aa) K.1;have cg:=K.2;generalize ek (runM E f V n m)=F at cg;generalize bV (runM E f V n m)=o at cg;unfold XB at cg
 split at cg
 .rename_i t x ix an
  split at cg
  .rename_i bk kA U hi al;simp only[aE,aA]at cg;obtain⟨rfl,rfl⟩:=cg;obtain⟨q,au⟩:=Any hi;exact abC an U au al aO I
  .cases cg
 .cases cg
def U4(E:Env)(F:Fr)(o:Oper):Option (BinOp×Nat×D×D):=match o.op with
 | .binOp op t x y _=>match aZ E F x,aZ E F y with
  |some a,some b=>some (op,t,a,b)
  |_,_=>none
 |_=>none
theorem ma(n:Nat){op:BinOp}{t:Nat}{d1 d2 d:D}(ah:qt E op t d1 d2=some d)(k:c3 E f V Q (mL (runM E f V n m) d))
  (K:(o6 (runM E f V n m),U4 E (ek (runM E f V n m)) (bV (runM E f V n m)))=(true,some (op,t,d1,d2)):=by kernel_rfl):c3 E f V Q m:=by
 simp only[aA]at K;refine fe n ?_ k K.1;have cg:=K.2;generalize ek (runM E f V n m)=F at cg;generalize bV (runM E f V n m)=o at cg;unfold U4 at cg
 split at cg
 .rename_i amD bz x y ty an
  split at cg
  .rename_i a b aC ag;simp only[aE,aA]at cg;obtain⟨rfl,rfl,rfl,rfl⟩:=cg;exact T9 an aC ag ah
  .cases cg
 .cases cg
end
end Go.aS
namespace Go.aS
open D
section
variable{E:Env}{f:Nat}{V:List Nat}{Q:dU->Fr->Prop}{m:cL}{O ρ:Type}
def j6(o:Oper):Operand:=(zY o.op).getD (.const undef)
def Dq(E:Env)(F:Fr)(o:Oper):List D:=match aZ E F (j6 o)with
 |some (fn _ cs)=>cs
 |_=>[]
def iP(E:Env)(F:Fr)(o:Oper):List Arg:=gF (ug o.op) (Dq E F o).length
def MS(E:Env)(g:Nat)(F:Fr)(A:List Arg):List (Option D):=match kE E g 0 F A with
 |some (ms,_)=>ms
 |none=>[]
def yw(E:Env)(g:Nat)(F:Fr)(x:Operand)(A:List Arg):Option (Nat×Path):=(hk E g F x 0 A).getD none
def DI(F:Fr)(l:Option (Nat×Path)):Option D:=match pI F l with
 |some (d,_)=>d
 |none=>none
structure ags where
 x:Operand
 ey:List D
 m7:List Arg
 ms:List (Option D)
 f1:Fr
 l:Option (Nat×Path)
 k3:Option D
 f2:Fr
def cB(E:Env)(g:Nat)(F:Fr)(o:Oper):ags:=
 {x:=j6 o,ey:=Dq E F o,m7:=iP E F o,ms:=MS E g F (iP E F o),f1:=xv E g F (iP E F o),l:=yw E g (xv E g F (iP E F o)) (j6 o) (iP E F o),
  k3:=DI (xv E g F (iP E F o)) (yw E g (xv E g F (iP E F o)) (j6 o) (iP E F o)),f2:=Et (xv E g F (iP E F o)) (yw E g (xv E g F (iP E F o)) (j6 o) (iP E F o)) }
def DU(g:Nat):Option D->Bool
 |some (fn fG _)=>bo fG g
 |_=>false
def uP(E:Env)(g:Nat)(F:Fr)(o:Oper)(outs:List D):Bool:=
 (zY o.op).isSome&&DU g (aZ E F (j6 o))&&(kE E g 0 F (iP E F o)).isSome&&(hk E g (cB E g F o).f1 (j6 o) 0 (iP E F o)).isSome&&(pI (cB E g F o).f1 (cB E g F o).l).isSome&&(lq (cB E g F o).f1 (cB E g F o).l outs).isSome
theorem C8{g:Nat}{az outs:List D}{r k7:D}(cm:pV m=true)(ad:uP E g (dc m) (bV m) outs=true)
  (hr:gu E g (cB E g (dc m) (bV m)).f1 (cB E g (dc m) (bV m)).f2 (cB E g (dc m) (bV m)).x (cB E g (dc m) (bV m)).k3 0 (cB E g (dc m) (bV m)).m7 (cB E g (dc m) (bV m)).ms=some az) (Ey:bR E g az r outs)
  (hf:(if r.ln&&outs.all flat then some (cB E g (dc m) (bV m)).f1 else lp (cB E g (dc m) (bV m)).f1 (iu E g (cB E g (dc m) (bV m)).f1 (cB E g (dc m) (bV m)).x 0 (cB E g (dc m) (bV m)).m7))=some (cB E g (dc m) (bV m)).f1)
  (oL:lS (E.eager f ((bV m).dst.getD 0)) r=some k7)
  (k:c3 E f V Q (vo m (fin (HZ (cB E g (dc m) (bV m)).f1 (cB E g (dc m) (bV m)).l outs) (bV m).dst k7))):c3 E f V Q m:=by
 obtain⟨N,eL⟩:=Ey;refine⟨OZ cm ⟨N,λn ao=>?_⟩ k.out⟩;generalize dc m=F at *;generalize bV m=o at *;simp only[uP,aQ]at ad;obtain⟨⟨⟨⟨⟨ad,gW⟩,hm⟩,hl⟩,aU⟩,ak⟩:=ad;obtain⟨x,U⟩:=aM.1 ad;obtain⟨⟨ms,aX⟩,hm⟩:=aM.1 hm;obtain⟨l,hl⟩:=aM.1 hl;obtain⟨⟨k3,bN⟩,aU⟩:=aM.1 aU;obtain⟨jf,ak⟩:=aM.1 ak;have ex:j6 o=x:=by unfold j6;rw[U];rfl
 have nZ:(cB E g F o).f1=aX:=by simp only[cB,xv,hm]
 have em:(cB E g F o).ms=ms:=by simp only[cB,MS,hm]
 have el:(cB E g F o).l=l:=by
  have:(cB E g F o).l=yw E g (cB E g F o).f1 (j6 o) (iP E F o):=rfl;rw[this];simp only[yw,hl];rfl
 have MY:(cB E g F o).k3=k3:=by
  have:(cB E g F o).k3=DI (cB E g F o).f1 (cB E g F o).l:=rfl;rw[this];simp only[DI,aU]
 have a5:(cB E g F o).f2=bN:=by
  have:(cB E g F o).f2=Et (cB E g F o).f1 (cB E g F o).l:=rfl;rw[this];simp only[Et,aU]
 have aha:HZ (cB E g F o).f1 (cB E g F o).l outs=jf:=by simp only[HZ,ak];rfl
 obtain⟨ey,gW⟩:∃ey,aZ E F (j6 o)=some (fn g ey):=by
  unfold DU at gW
  split at gW
  .rename_i fG cs h;rw[a6 gW]at h;exact⟨cs,h⟩
  .cases gW
 have ll:(cB E g F o).m7=gF (ug o.op) ey.length:=by simp only[cB,iP,Dq,gW]
 have yB:(cB E g F o).x=x:=ex;rw[aha];rw[nZ,a5,yB,MY,em,ll]at hr;rw[nZ,yB,ll]at hf;have DN:iP E F o=gF (ug o.op) ey.length:=ll;rw[DN]at hm;rw[nZ,ex,DN]at hl;rw[nZ,el]at aU ak;rw[ex]at gW;unfold cV;unfold zY at U
 split at U
 .rename_i c aP
  split at U
  .rename_i y db;simp only[aE]at U;subst U;simp only[aP,db,gW];simp only[ug,aP]at hm hl hr hf;have:kn E (gR E n) F g y (gF c.args.toList ey.length)=some (r,jf):=by
    unfold kn;simp only[hm,hl,aU,hr,eL n ao,hf,ak,bL]
   simp only[this,cD,oL,bL]
  .cases U
 .cases U
def Bw(E:Env)(g:Nat)(m:cL)(outs:List D)(r:D):cL:=vo m (fin (HZ (cB E g (dc m) (bV m)).f1 (cB E g (dc m) (bV m)).l outs) (bV m).dst r)
def DJ(E:Env)(g:Nat)(m:cL):Option (List D):=gu E g (cB E g (dc m) (bV m)).f1 (cB E g (dc m) (bV m)).f2 (cB E g (dc m) (bV m)).x (cB E g (dc m) (bV m)).k3 0 (cB E g (dc m) (bV m)).m7 (cB E g (dc m) (bV m)).ms
def sZ(E:Env)(g:Nat)(m:cL)(r:D)(outs:List D):Option Fr:=if r.ln&&outs.all flat then some (cB E g (dc m) (bV m)).f1 else lp (cB E g (dc m) (bV m)).f1 (iu E g (cB E g (dc m) (bV m)).f1 (cB E g (dc m) (bV m)).x 0 (cB E g (dc m) (bV m)).m7)
def qy(E:Env)(f:Nat)(m:cL):Bool:=E.eager f ((bV m).dst.getD 0)
theorem gO{g:Nat}{r:D}{outs:List D}(I:r.flat=true)(aa:outs.all flat=true:=by kernel_rfl):sZ E g m r outs=some (cB E g (dc m) (bV m)).f1:=by
 unfold sZ;rw[M9 I,aa];rfl
theorem aaM{g:Nat}{r:D}{outs:List D}(I:r.ln=true)(aa:outs.all flat=true:=by kernel_rfl):sZ E g m r outs=some (cB E g (dc m) (bV m)).f1:=by
 unfold sZ;rw[I,aa];rfl
theorem Kv{g:Nat}{r d:D}(I:r.flat=true)(aa:d.flat=true):sZ E g m r [d]=some (cB E g (dc m) (bV m)).f1:=gO I (by simp only[List.all_cons,aa,List.all_nil,cu])
theorem h3{g:Nat}{r:D}{outs:List D}(h:lp (cB E g (dc m) (bV m)).f1 (iu E g (cB E g (dc m) (bV m)).f1 (cB E g (dc m) (bV m)).x 0 (cB E g (dc m) (bV m)).m7)=some (cB E g (dc m) (bV m)).f1:=by kernel_rfl):sZ E g m r outs=some (cB E g (dc m) (bV m)).f1:=by
 unfold sZ;exact ach h
theorem b4(n:Nat){g:Nat}{P:ρ->Prop}{R:ρ->Prop}{res:ρ->D}{outs:ρ->List D}{az:List D}(h:∃r,P r/\R r)(fT:∀r,P r->bR E g az (res r) (outs r))
  (k:∀r,P r->R r->c3 E f V Q (Bw E g (runM E f V n m) (outs r) (res r)))
  (K:∀r,(pV (runM E f V n m),uP E g (dc (runM E f V n m)) (bV (runM E f V n m)) (outs r),qy E f (runM E f V n m))=(true,true,false):=by intro;kernel_rfl)
  (hr:DJ E g (runM E f V n m)=some az:=by kernel_rfl)
  (hf:∀r,sZ E g (runM E f V n m) (res r) (outs r)=some (cB E g (dc (runM E f V n m)) (bV (runM E f V n m))).f1:=by intro;kernel_rfl):c3 E f V Q m:=by
 obtain⟨r,I,aa⟩:=h;have K:=K r;simp only[aA]at K;refine runK n m (C8 K.1 K.2.1 hr (fT r I) (hf r) ?_ (k r I aa));have:=K.2.2;unfold qy at this;rw[this];rfl
abbrev bJ{p:Prop}[Decidable p]:decide p=true->p:=of_decide_eq_true
abbrev bI{p:Prop}[Decidable p]:decide p=false->¬p:=of_decide_eq_false
theorem Hh(n:Nat){g:Nat}{P:ρ->Prop}{R:ρ->Prop}{res FA:ρ->D}{outs:ρ->List D}{az:List D}(h:∃r,P r/\R r)(fT:∀r,P r->bR E g az (res r) (outs r))(ad:∀r,lS true (res r)=some (FA r))
  (k:∀r,P r->R r->c3 E f V Q (Bw E g (runM E f V n m) (outs r) (FA r)))
  (K:∀r,(pV (runM E f V n m),uP E g (dc (runM E f V n m)) (bV (runM E f V n m)) (outs r),qy E f (runM E f V n m))=(true,true,true):=by intro;kernel_rfl)
  (hr:DJ E g (runM E f V n m)=some az:=by kernel_rfl)
  (hf:∀r,sZ E g (runM E f V n m) (res r) (outs r)=some (cB E g (dc (runM E f V n m)) (bV (runM E f V n m))).f1:=by intro;kernel_rfl):c3 E f V Q m:=by
 obtain⟨r,I,aa⟩:=h;have K:=K r;simp only[aA]at K;refine runK n m (C8 K.1 K.2.1 hr (fT r I) (hf r) ?_ (k r I aa));have:=K.2.2;unfold qy at this;rw[this];exact ad r
theorem iy(n:Nat){g:Nat}{P A B:Bool->Prop}{az:List D}(h:∃r,P r/\(if r=true then A r else B r))(fT:∀r,P r->bR E g az (lit (.bool r)) [])
  (b9:P true->A true->c3 E f V Q (Bw E g (runM E f V n m) [] (lit (.bool true)))) (k2:P false->B false->c3 E f V Q (Bw E g (runM E f V n m) [] (lit (.bool false))))
  (K:(pV (runM E f V n m),uP E g (dc (runM E f V n m)) (bV (runM E f V n m)) [])=(true,true):=by kernel_rfl)
  (hr:DJ E g (runM E f V n m)=some az:=by kernel_rfl):c3 E f V Q m:=by
 obtain⟨r,I,aa⟩:=h;simp only[aA]at K;have oL:∀b x,lS b (lit (.bool x))=some (lit (.bool x)):=by intro b x;cases b<;>rfl
 cases r with
 |true=>exact runK n m (C8 K.1 K.2 hr (fT _ I) (gO rfl rfl) (oL _ _) (b9 I (by simpa using aa)))
 |false=>exact runK n m (C8 K.1 K.2 hr (fT _ I) (gO rfl rfl) (oL _ _) (k2 I (by simpa using aa)))
theorem wG(n:Nat){g:Nat}{az outs:List D}{r:D}(fT:bR E g az r outs)
  (k:c3 E f V Q (Bw E g (runM E f V n m) outs r))
  (K:(pV (runM E f V n m),uP E g (dc (runM E f V n m)) (bV (runM E f V n m)) outs,qy E f (runM E f V n m))=(true,true,false):=by kernel_rfl)
  (hr:DJ E g (runM E f V n m)=some az:=by kernel_rfl)
  (hf:sZ E g (runM E f V n m) r outs=some (cB E g (dc (runM E f V n m)) (bV (runM E f V n m))).f1:=by kernel_rfl):c3 E f V Q m:=
 b4 (ρ:=Unit) (P:=λ_=>True) (R:=λ_=>True) (res:=λ_=>r) (outs:=λ_=>outs) n ⟨(),trivial,trivial⟩ (λ_ _=>fT) (λ_ _ _=>k) (λ_=>K) hr (λ_=>hf)
def EW(E:Env)(g:Nat)(m:cL):Option (List D):=gu E g (ek m) (ek m) (j6 (bV m)) none 0 (iP E (ek m) (bV m)) ((iP E (ek m) (bV m)).map λ_=>none)
def zm(E:Env)(g:Nat)(m:cL):Bool:=IX m&&(zY (bV m).op).isSome&&DU g (aZ E (ek m) (j6 (bV m)))&&C1 E g (iP E (ek m) (bV m)).length
def vm(E:Env)(g:Nat)(m:cL)(r:D):Bool:=r.ln || (iu E g (ek m) (j6 (bV m)) 0 (iP E (ek m) (bV m))).all (qT (ek m))
theorem z8{g:Nat}{r:D}(I:r.flat=true):vm E g m r=true:=by unfold vm;rw[M9 I];rfl
theorem TX{g:Nat}{az:List D}{r k7:D}(cm:zm E g m=true)(hr:EW E g m=some az)(Ey:bR E g az r [])(hf:vm E g m r=true)(oL:lS (E.eager f ((bV m).dst.getD 0)) r=some k7)(k:c3 E f V Q (EZ m k7)):c3 E f V Q m:=by
 obtain⟨N,eL⟩:=Ey;cases m with
 |gv c F=>simp[zm,IX]at cm
 |bad=>simp[zm,IX]at cm
 |op id ops draw ks j s=>
  have k:=k.out;simp only[EZ]at k;cases za:rl ops s.1 j k7 with
  |false=>rw[za]at k;exact k.elim
  |true=>
  rw[za]at k;refine⟨kk.E4 ⟨N,λn ao=>?_⟩ k⟩;simp only[zm,aQ]at cm;obtain⟨⟨⟨eU,ad⟩,gW⟩,jK⟩:=cm;simp only[IX]at eU;simp only[bV,ek,EW,vm]at *;unfold qn
  split at eU
  .rename_i o an;simp only[an]at ad gW jK hr hf oL;simp only[aQ,Bool.not_eq_true']at eU;obtain⟨⟨⟨Ed,aC⟩,hw⟩,⟨iV,EA⟩,EB⟩:=eU;have hw:=Gh hw;subst Ed;simp only[cond_true,aC,cond_false,qC,cA,Bool.and_true]at hw iV ad gW jK hr hf⊢;obtain⟨x,U⟩:=aM.1 ad;have ex:j6 o=x:=by unfold j6;rw[U];rfl
   obtain⟨ey,gW⟩:∃ey,aZ E (gm (fD ops s.1 j) s.2) (j6 o)=some (fn g ey):=by
    unfold DU at gW
    split at gW
    .rename_i fG cs h;rw[a6 gW]at h;exact⟨cs,h⟩
    .cases gW
   have ll:iP E (gm (fD ops s.1 j) s.2) o=gF (ug o.op) ey.length:=by simp only[iP,Dq,gW]
   rw[ll]at jK hr hf;rw[ex]at gW hr hf;have av:dJ E f (gR E n) (gm (fD ops s.1 j) s.2) o=some k7:=by
    unfold dJ;unfold zY at U
    split at U
    .rename_i c aP
     split at U
     .rename_i y db;simp only[aE]at U;subst U;simp only[aP,db,gW];simp only[ug,aP]at jK hr hf;rw[if_pos jK];simp only[hr,eL n ao,if_pos hf,oL]
     .cases U
    .cases U
   simp only[an,e5,hw,av,iV,EA,EB,za,cu,cond_true]
  .cases eU
theorem LO{g:Nat}{r:D}(h:(iu E g (ek m) (j6 (bV m)) 0 (iP E (ek m) (bV m))).all (qT (ek m))=true:=by kernel_rfl):vm E g m r=true:=by unfold vm;rw[h,Bool.or_true]
theorem EY(n:Nat){g:Nat}{P:ρ->Prop}{R:ρ->Prop}{res:ρ->D}{az:List D}(h:∃r,P r/\R r)(fT:∀r,P r->bR E g az (res r) [])
  (k:∀r,P r->R r->c3 E f V Q (EZ (runM E f V n m) (res r)))
  (K:(zm E g (runM E f V n m),qy E f (runM E f V n m))=(true,false):=by kernel_rfl)
  (hr:EW E g (runM E f V n m)=some az:=by kernel_rfl)
  (hf:∀r,vm E g (runM E f V n m) (res r)=true:=by intro;kernel_rfl):c3 E f V Q m:=by
 obtain⟨r,I,aa⟩:=h;simp only[aA]at K;refine runK n m (TX K.1 hr (fT r I) (hf r) ?_ (k r I aa));have:=K.2;unfold qy at this;rw[this];rfl
theorem I0(n:Nat){g:Nat}{P:ρ->Prop}{R:ρ->Prop}{res FA:ρ->D}{az:List D}(h:∃r,P r/\R r)(fT:∀r,P r->bR E g az (res r) [])(ad:∀r,lS true (res r)=some (FA r))
  (k:∀r,P r->R r->c3 E f V Q (EZ (runM E f V n m) (FA r)))
  (K:(zm E g (runM E f V n m),qy E f (runM E f V n m))=(true,true):=by kernel_rfl)
  (hr:EW E g (runM E f V n m)=some az:=by kernel_rfl)
  (hf:∀r,vm E g (runM E f V n m) (res r)=true:=by intro;kernel_rfl):c3 E f V Q m:=by
 obtain⟨r,I,aa⟩:=h;simp only[aA]at K;refine runK n m (TX K.1 hr (fT r I) (hf r) ?_ (k r I aa));have:=K.2;unfold qy at this;rw[this];exact ad r
theorem akR(n:Nat){g:Nat}{az:List D}{r:D}(fT:bR E g az r [])
  (k:c3 E f V Q (EZ (runM E f V n m) r))
  (K:(zm E g (runM E f V n m),qy E f (runM E f V n m))=(true,false):=by kernel_rfl)
  (hr:EW E g (runM E f V n m)=some az:=by kernel_rfl)
  (hf:vm E g (runM E f V n m) r=true:=by kernel_rfl):c3 E f V Q m:=
 EY (ρ:=Unit) (P:=λ_=>True) (R:=λ_=>True) (res:=λ_=>r) n ⟨(),trivial,trivial⟩ (λ_ _=>fT) (λ_ _ _=>k) K hr (λ_=>hf)
theorem qe{g i:Nat}{F bN:Fr}{x:Operand}{l:Option D}{A:List Arg}{ms:List (Option D)}(c2:A=[]:=by kernel_rfl)(hm:ms=[]:=by kernel_rfl):gu E g F bN x l i A ms=some []:=by rw[c2,hm];rfl
theorem pb{g i:Nat}{F bN:Fr}{x:Operand}{l:Option D}{A:List Arg}{ms:List (Option D)}{d0 d:D}{az:List D}
  (ae:eV bN d0=some d) (h:gu E g F bN x l (i+1) A.tail ms.tail=some az)
  (K:(E.mode g i,j4 E F x (A.headD (.cap 0)),A.isEmpty,ms.isEmpty,(ms.headD none).isSome)=(Mode.snap,some d0,false,false,false):=by kernel_rfl):gu E g F bN x l i A ms=some (d::az):=by
 simp only[aA]at K;obtain⟨I,aa,aB,aW,bO⟩:=K;cases A with
 |nil=>cases aB
 |cons a A=>
  cases ms with
  |nil=>cases aW
  |cons q ms=>
   simp only[List.headD_cons,List.tail_cons]at *;cases q with
   |some _=>cases bO
   |none=>exact abj I aa ae h
theorem sg{g i:Nat}{F bN:Fr}{x:Operand}{l:Option D}{A:List Arg}{ms:List (Option D)}{d:D}{az:List D}
  (h:gu E g F bN x l (i+1) A.tail ms.tail=some az)
  (K:(E.mode g i,(j4 E F x (A.headD (.cap 0))).bind (eV bN),A.isEmpty,ms.isEmpty,(ms.headD none).isSome)=(Mode.snap,some d,false,false,false):=by kernel_rfl):gu E g F bN x l i A ms=some (d::az):=by
 simp only[aA]at K;obtain⟨I,aa,aB,aW,bO⟩:=K;obtain⟨d0,aO,ae⟩:=Option.bind_eq_some_iff.1 aa;exact pb ae h (by rw[I,aO,aB,aW,bO])
def rB(E:Env)(F:Fr)(o:Oper):Option (List (List D)×List (List D)×Fr×Nat×Nat):=match o.op with
 | .call c=>match c.callee,c.args.toList,c.argTypes.toList with
  | .builtin .append,[x,y],[t,u]=>match nw E.P u,eD E.P t,c9 E F x with
   |true,some et,some (own es,aX)=>match jO E aX y,fC E.P et with
    |some (fA,bN),some z=>bif bo z.cells.length (aY E.P et)&&b5 0 (aY E.P et)&&b5 0 (j5 E.P et)then some (es,fA,bN,j5 E.P et,aY E.P et)else none
    |_,_=>none
   |_,_,_=>none
  |_,_,_=>none
 |_=>none
def HF:Option (List (List D)×List (List D)×Fr×Nat×Nat)->Fr
 |some (_,_,F,_,_)=>F
 |none=>[]
def HG:Option (List (List D)×List (List D)×Fr×Nat×Nat)->Option (List (List D)×List (List D)×Nat)
 |some (a,b,_,c,_)=>some (a,b,c)
 |none=>none
def HH:Option (List (List D)×List (List D)×Fr×Nat×Nat)->Nat
 |some (_,_,_,_,k)=>k
 |none=>0
theorem Uf{F:Fr}{o:Oper}{e:dE O}{l m:List O}{c:Nat}(cg:HG (rB E F o)=some (l.map e,m.map e,c))(aj:∀x,(e x).length=HH (rB E F o))(hl:(l.length+m.length)*c<=140737488355328):cV E f V lO F o=some (fin (HF (rB E F o)) o.dst (.own ((l++m).map e))):=by
 cases U:rB E F o with
 |none=>rw[U]at cg;cases cg
 |some q=>
  obtain⟨es,fA,bN,c',k⟩:=q;rw[U]at cg aj;simp only[HG,aE,aA]at cg;obtain⟨rfl,rfl,rfl⟩:=cg;simp only[HH]at aj;simp only[HF];unfold rB at U
  split at U
  .rename_i agQ an
   split at U
   .rename_i x y t u ad aC al
    split at U
    .rename_i et es aX hr ae f_
     split at U
     .rename_i fA lR z ao aG;cases ag:(bo z.cells.length (aY E.P et)&&b5 0 (aY E.P et)&&b5 0 (j5 E.P et))with
      |false=>rw[ag]at U;cases U
      |true=>
       rw[ag]at U;simp only[cond_true,aE,aA]at U;obtain⟨rfl,rfl,rfl,rfl,rfl⟩:=U;simp only[aQ]at ag;obtain⟨agP,hK,tys⟩:=agQ;simp only at ad aC al;obtain⟨hK⟩:=hK;obtain⟨tys⟩:=tys;simp only at aC al;subst aC;subst al;subst ad;exact CM an hr ae aG (a6 ag.1.1) f_ ao rfl ag.1.2 rfl ag.2 aj hl
     .cases U
    .cases U
   .cases U
  .cases U
theorem nq(n:Nat)(e:dE O)(l x:List O){c ys uF:Nat}{R:Prop}(h:(ys+uF)*c<=140737488355328/\R)
  (k:R->c3 E f V Q (vo (runM E f V n m) (fin (HF (rB E (dc (runM E f V n m)) (bV (runM E f V n m)))) (bV (runM E f V n m)).dst (.own ((l++x).map e)))))
  (K:(pV (runM E f V n m),HG (rB E (dc (runM E f V n m)) (bV (runM E f V n m))),l.length,x.length)=(true,some (l.map e,x.map e,c),ys,uF):=by kernel_rfl)
  (aj:∀x,(e x).length=HH (rB E (dc (runM E f V n m)) (bV (runM E f V n m))):=by intro;kernel_rfl):c3 E f V Q m:=by
 simp only[aA]at K;obtain⟨I,aa,rfl,rfl⟩:=K;exact vn n (Uf aa aj h.1) (k h.2) I
def vG(E:Env)(F:Fr)(o:Oper):Option (D×Fr×Nat×Path×Nat×Nat×List (List D)×Nat):=match o.op with
 | .store t x y=>match c9 E F y with
  |some (d,aX)=>match aZ E aX x with
   |some (place s ps n c)=>match b6 aX s ps with
    |some (own es)=>bif (E.P.info? t).isSome&&bo d.cells.length (aY E.P t)then some (d,aX,s,ps,n,c,es,aY E.P t)else none
    |_=>none
   |_=>none
  |none=>none
 |_=>none
def PM:Option (D×Fr×Nat×Path×Nat×Nat×List (List D)×Nat)->Option (List (List D)×Nat)
 |some (_,_,_,_,n,_,es,_)=>some (es,n)
 |none=>none
def PL(cs:List D):Option (D×Fr×Nat×Path×Nat×Nat×List (List D)×Nat)->Option (List D)
 |some (d,_,_,_,_,c,_,k)=>bif b3 (c+k) cs.length then some (cs.take c++d.cells++cs.drop (c+k))else none
 |none=>none
def Jl(cs:List D)(es:List (List D)):Option (D×Fr×Nat×Path×Nat×Nat×List (List D)×Nat)->Option Fr
 |some (_,aX,s,ps,n,c,_,k)=>(setAt aX s ps (.own es)).map λbN=>if((cs.drop c).take k).any node1 then jM (rH s ps n c k) bN else bN
 |none=>none
theorem afT{F aD:Fr}{o:Oper}{e:dE O}{l:List O}{n:Nat}{a b:O}(cg:PM (vG E F o)=some (l.map e,n))(h:l[n]?=some a)(ag:PL (e a) (vG E F o)=some (e b))(e2:Jl (e a) ((l.set n b).map e) (vG E F o)=some aD):cV E f V lO F o=some (fin aD o.dst (.bt [])):=by
 cases U:vG E F o with
 |none=>rw[U]at cg;cases cg
 |some q=>
  obtain⟨d,aX,s,ps,eG,c,es,k⟩:=q;rw[U]at cg ag e2;simp only[PM,aE,aA]at cg;obtain⟨rfl,rfl⟩:=cg;simp only[PL]at ag;simp only[Jl,cc]at e2;obtain⟨bN,ah5,rfl⟩:=e2;unfold vG at U
  split at U
  .rename_i t x y an
   split at U
   .rename_i bf alV aw
    split at U
    .rename_i bk pW I4 c' zh
     split at U
     .rename_i es ak;cases au:((E.P.info? t).isSome&&bo bf.cells.length (aY E.P t))with
      |false=>rw[au]at U;cases U
      |true=>
       rw[au]at U;simp only[cond_true,aE,aA]at U;obtain⟨rfl,rfl,rfl,rfl,rfl,rfl,rfl,rfl⟩:=U;simp only[aQ]at au;cases hle:b3 (c'+aY E.P t) (e a).length with
       |false=>rw[hle]at ag;cases ag
       |true=>
        rw[hle]at ag;simp only[cond_true,aE]at ag;exact Lh an aw zh ak h au.1 rfl (a6 au.2) hle ag ah5
     .cases U
    .cases U
   .cases U
  .cases U
theorem iI(n:Nat)(e:dE O){l:List O}{i:Int}{a:O}(b:O)(h:a_ l i=some a)
  (k:c3 E f V Q (vo (runM E f V n m) (fin ((Jl (e a) ((b7 l i b).map e) (vG E (dc (runM E f V n m)) (bV (runM E f V n m)))).getD []) (bV (runM E f V n m)).dst (.bt []))))
  (K:(pV (runM E f V n m),PM (vG E (dc (runM E f V n m)) (bV (runM E f V n m))),PL (e a) (vG E (dc (runM E f V n m)) (bV (runM E f V n m))),(Jl (e a) ((b7 l i b).map e) (vG E (dc (runM E f V n m)) (bV (runM E f V n m)))).isSome)=(true,some (l.map e,i.toNat),some (e b),true):=by kernel_rfl):c3 E f V Q m:=by
 simp only[aA]at K;obtain⟨I,aa,aB,aW⟩:=K;obtain⟨aD,e2⟩:=aM.1 aW;rw[e2]at k;exact vn n (afT aa (hd h).2 aB e2) k I
end
end Go.aS
namespace Go.aS
open D
section
variable{F bN:Fr}{O:Type}{e:dE O}{l:List O}{a b:O}{s n c:Nat}{ps:Path}{cs:List D}{d bf:D}
theorem abr(ak:b6 F s ps=some (.own (l.map e)))(h:l[n]?=some a)(ad:b5 c (e a).length=true)(ag:(e a).set c bf=e b)(eJ:setAt F s ps (.own ((l.set n b).map e))=some bN):setAt F s (ps++[(n,c)]) bf=some bN:=
 TE ak h ad (by rw[ag,<-map_set];exact eJ)
end
end Go.aS
namespace Go.aS
open D
section
variable{E:Env}{f:Nat}{V:List Nat}{Q:dU->Fr->Prop}{m:cL}{A B:Prop}{c:Prop}[Decidable c]
end
end Go.aS
namespace Go.aS
open D
section
variable{E:Env}{f:Nat}{V:List Nat}{Q:dU->Fr->Prop}{m:cL}{O:Type}
def jB(E:Env)(F:Fr)(o:Oper):Option (D×Nat×Nat×Nat×List (List D)×Nat):=match o.op with
 | .store t x y=>match o.dst with
  |some _=>none
  |none=>match ov E F y with
   |none=>none
   |some d=>match aZ E F x with
    |some (place s [] i c)=>match get F s with
     |own es=>bif (E.P.info? t).isSome&&bo d.cells.length (aY E.P t)then some (d,s,i,c,es,aY E.P t)else none
     |_=>none
    |_=>none
 |_=>none
def Bv:Option (D×Nat×Nat×Nat×List (List D)×Nat)->Option (List (List D)×Nat)
 |some (_,_,i,_,es,_)=>some (es,i)
 |none=>none
def oU:Option (D×Nat×Nat×Nat×List (List D)×Nat)->Nat
 |some (_,s,_,_,_,_)=>s
 |none=>0
def OW(cs:List D):Option (D×Nat×Nat×Nat×List (List D)×Nat)->Option (List D)
 |some (d,_,_,c,_,k)=>bif b3 (c+k) cs.length&&!((cs.drop c).take k).any node1 then some (cs.take c++d.cells++cs.drop (c+k))else none
 |none=>none
theorem abf{F:Fr}{o:Oper}{es:List (List D)}{i:Nat}{cs b8:List D}(h:Bv (jB E F o)=some (es,i))(aC:es[i]?=some cs)(ad:OW cs (jB E F o)=some b8):mo E F o=some ((oU (jB E F o),own (es.set i b8)),[]):=by
 cases U:jB E F o with
 |none=>rw[U]at h;cases h
 |some z=>
  obtain⟨d,s,kA,c,es',k⟩:=z;rw[U]at h ad;simp only[Bv,aE,aA]at h;obtain⟨rfl,rfl⟩:=h;simp only[OW]at ad;cases ag:(b3 (c+k) cs.length&&!((cs.drop c).take k).any node1)with
  |false=>rw[ag]at ad;cases ad
  |true=>
   rw[ag]at ad;simp only[cond_true,aE]at ad;subst ad;rw[aQ]at ag;have kY:=bB ag.1;have eS:((cs.drop c).take k).any node1=false:=by simpa using ag.2
   unfold jB at U;unfold mo
   split at U
   .rename_i t x y au
    split at U
    .cases U
    .rename_i fq
     split at U
     .cases U
     .rename_i bf aw
      split at U
      .rename_i bk i2 c' zh
       split at U
       .rename_i uV ak;cases hi:((E.P.info? t).isSome&&bo bf.cells.length (aY E.P t))with
        |false=>rw[hi]at U;cases U
        |true=>
         rw[hi]at U;simp only[cond_true,aE,aA]at U;obtain⟨rfl,rfl,rfl,rfl,rfl,rfl⟩:=U;rw[aQ]at hi;have I:=hi.1;have aa:=a6 hi.2;simp only[au,fq,aw,zh,ak,aC,oU];rw[if_pos ⟨I,aa,kY⟩];simp only[x_,eS,cz,if_false]
       .cases U
      .cases U
   .cases U
def IY:cL->List (Nat×D)->List (Nat×Path)->cL
 | .op id ops draw ks j s,p,K=>.op id ops draw ks (j+1) ((j,p.map (·.1),some K)::s.1,eB p s.2)
 |_,_,_=>.bad
def DP(E:Env)(f:Nat):cL->List (Nat×D)->List (Nat×Path)->Bool
 | .op _ ops draw _ j s,p,K=>match ops[j]? with
  |some o=>draw&&!la ops j&&Aj (fV ops (qC draw ops j s) o)&&(e5 E f lO ops (qC draw ops j s) o).isNone&&Hf E f ops s.1 j s.2 o p K
  |none=>false
 |_,_,_=>false
theorem Mi{p:List (Nat×D)}{K:List (Nat×Path)}(cm:DP E f m p K=true)(h:j8 E f V lO (ek m) (bV m)=some (p,K))(k:kk E f V Q (IY m p K)):kk E f V Q m:=by
 cases m with
 |gv c F=>cases cm
 |bad=>cases cm
 |op id ops draw ks j s=>
  refine kk.E4 ⟨0,λn _=>Ln Gj (c:=lO) ?_⟩ k;simp only[DP]at cm
  split at cm
  .rename_i o an;simp only[aQ]at cm;obtain⟨⟨⟨⟨ah,oK⟩,hw⟩,WC⟩,aiJ⟩:=cm;have hw:=Gh hw;have oK:la ops j=false:=by simpa using oK
   cases draw with
   |false=>cases ah
   |true=>
    simp only[ek,bV,an,qC,oK,cA,cu,cond_true]at h hw WC;have hl:oI E f V lO ops s.1 j s.2 o=some ((j,p.map (·.1),some K)::s.1,eB p s.2):=by
     unfold oI;simp only[ZR h,hw,h];rw[if_pos aiJ]
    unfold qn;simp only[an,cond_true,oK,cond_false,ba.1 WC,hl]
  .cases cm
theorem age(n:Nat)(e:dE O){l:List O}{i:Int}{a:O}(b:O)(h:a_ l i=some a)
  (k:c3 E f V Q (IY (runM E f V n m) [(oU (jB E (ek (runM E f V n m)) (bV (runM E f V n m))),.own ((b7 l i b).map e))] []))
  (K:(DP E f (runM E f V n m) [(oU (jB E (ek (runM E f V n m)) (bV (runM E f V n m))),.own ((b7 l i b).map e))] [],Bv (jB E (ek (runM E f V n m)) (bV (runM E f V n m))),OW (e a) (jB E (ek (runM E f V n m)) (bV (runM E f V n m))))=(true,some (l.map e,i.toNat),some (e b)):=by kernel_rfl):c3 E f V Q m:=by
 simp only[aA]at K;obtain⟨I,aa,aB⟩:=K;have aW:mo E (ek (runM E f V n m)) (bV (runM E f V n m))=some ((oU (jB E (ek (runM E f V n m)) (bV (runM E f V n m))),.own ((b7 l i b).map e)),[]):=by
  have:=abf (i:=i.toNat) aa (cs:=e a) (by rw[cx,(hd h).2];rfl) aB;have bO:(l.map e).set i.toNat (e b)=(b7 l i b).map e:=by unfold b7;rw[List.map_set]
  rw[bO]at this;exact this
 exact runK n m ⟨Mi I (by unfold j8;simp only[aW]) k.out⟩
theorem abt{F:Fr}{o:Oper}(h:(mT E F o).isSome=true):sJ E F o=none:=by
 cases ae:sJ E F o with
 |none=>rfl
 |some r=>
  unfold sJ at ae
  split at ae
  .rename_i au;unfold mT at h;simp[au]at h
  .cases ae
def MI(E:Env)(m:cL)(d:D):List (Nat×D):=match mT E (ek m) (bV m)with
 |some z=>fJ z (fin (HF (rB E (ek m) (bV m))) (bV m).dst d)
 |none=>[]
def MH(E:Env)(m:cL):List (Nat×Path):=match mT E (ek m) (bV m)with
 |some z=>z.2.2
 |none=>[]
theorem agd(n:Nat)(e:dE O)(l x:List O){c ys uF:Nat}{R:Prop}(h:(ys+uF)*c<=140737488355328/\R)
  (k:R->c3 E f V Q (IY (runM E f V n m) (MI E (runM E f V n m) (.own ((l++x).map e))) (MH E (runM E f V n m))))
  (K:(DP E f (runM E f V n m) (MI E (runM E f V n m) (.own ((l++x).map e))) (MH E (runM E f V n m)),(mT E (ek (runM E f V n m)) (bV (runM E f V n m))).isSome,(mo E (ek (runM E f V n m)) (bV (runM E f V n m))).isNone,HG (rB E (ek (runM E f V n m)) (bV (runM E f V n m))),l.length,x.length)=(true,true,true,some (l.map e,x.map e,c),ys,uF):=by kernel_rfl)
  (aj:∀x,(e x).length=HH (rB E (ek (runM E f V n m)) (bV (runM E f V n m))):=by intro;kernel_rfl):c3 E f V Q m:=by
 simp only[aA]at K;obtain⟨I,aa,aB,aW,rfl,rfl⟩:=K;obtain⟨z,aG⟩:=aM.1 aa;have bO:=Uf (f:=f) (V:=V) aW aj h.1;refine runK n m ⟨Mi I ?_ (k h.2).out⟩;unfold j8;simp only[ba.1 aB,abt aa,aG,bO,MI,MH]
end
end Go.aS
namespace Go.aS
open D
section
variable{E:Env}{f:Nat}{V:List Nat}{Q:dU->Fr->Prop}{m:cL}{O ρ:Type}
def Uv:Option (Nat×Path)->Bool
 |none=>true
 |some _=>false
def U_(E:Env)(g:Nat)(m:cL):Option Fr:=lp (cB E g (dc m) (bV m)).f1 (iu E g (cB E g (dc m) (bV m)).f1 (cB E g (dc m) (bV m)).x 0 (cB E g (dc m) (bV m)).m7)
def W9(E:Env)(g:Nat)(m:cL)(r:D):cL:=vo m (fin ((U_ E g m).getD []) (bV m).dst r)
theorem adW{g:Nat}{az:List D}{r:D}{Hn:Fr}(cm:pV m=true)(ad:uP E g (dc m) (bV m) []=true)
  (hr:gu E g (cB E g (dc m) (bV m)).f1 (cB E g (dc m) (bV m)).f2 (cB E g (dc m) (bV m)).x (cB E g (dc m) (bV m)).k3 0 (cB E g (dc m) (bV m)).m7 (cB E g (dc m) (bV m)).ms=some az) (Ey:bR E g az r [])
  (hf:(if r.ln&&([]:List D).all flat then some (cB E g (dc m) (bV m)).f1 else lp (cB E g (dc m) (bV m)).f1 (iu E g (cB E g (dc m) (bV m)).f1 (cB E g (dc m) (bV m)).x 0 (cB E g (dc m) (bV m)).m7))=some Hn)
  (ao:Uv (cB E g (dc m) (bV m)).l=true)
  (oL:E.eager f ((bV m).dst.getD 0)=false)
  (k:c3 E f V Q (vo m (fin Hn (bV m).dst r))):c3 E f V Q m:=by
 obtain⟨N,eL⟩:=Ey;refine⟨OZ cm ⟨N,λn ao=>?_⟩ k.out⟩;generalize dc m=F at *;generalize bV m=o at *;simp only[uP,aQ]at ad;obtain⟨⟨⟨⟨⟨ad,gW⟩,hm⟩,hl⟩,aU⟩,ak⟩:=ad;obtain⟨x,U⟩:=aM.1 ad;obtain⟨⟨ms,aX⟩,hm⟩:=aM.1 hm;obtain⟨l,hl⟩:=aM.1 hl;obtain⟨⟨k3,bN⟩,aU⟩:=aM.1 aU;have ex:j6 o=x:=by unfold j6;rw[U];rfl
 have nZ:(cB E g F o).f1=aX:=by simp only[cB,xv,hm]
 have em:(cB E g F o).ms=ms:=by simp only[cB,MS,hm]
 have el:(cB E g F o).l=l:=by
  have:(cB E g F o).l=yw E g (cB E g F o).f1 (j6 o) (iP E F o):=rfl;rw[this];simp only[yw,hl];rfl
 have MY:(cB E g F o).k3=k3:=by
  have:(cB E g F o).k3=DI (cB E g F o).f1 (cB E g F o).l:=rfl;rw[this];simp only[DI,aU]
 have a5:(cB E g F o).f2=bN:=by
  have:(cB E g F o).f2=Et (cB E g F o).f1 (cB E g F o).l:=rfl;rw[this];simp only[Et,aU]
 have ahd:l=none:=by
  rw[el]at ao;cases l with
  |none=>rfl
  |some q=>cases ao
 obtain⟨ey,gW⟩:∃ey,aZ E F (j6 o)=some (fn g ey):=by
  unfold DU at gW
  split at gW
  .rename_i fG cs h;rw[a6 gW]at h;exact⟨cs,h⟩
  .cases gW
 have ll:(cB E g F o).m7=gF (ug o.op) ey.length:=by simp only[cB,iP,Dq,gW]
 have yB:(cB E g F o).x=x:=ex;rw[nZ,a5,yB,MY,em,ll]at hr;rw[nZ,yB,ll]at hf;have DN:iP E F o=gF (ug o.op) ey.length:=ll;rw[DN]at hm;rw[nZ,ex,DN]at hl;rw[nZ,el]at aU;rw[ex]at gW;rw[ahd]at hl aU;unfold cV;unfold zY at U
 split at U
 .rename_i c aP
  split at U
  .rename_i y db;simp only[aE]at U;subst U;simp only[aP,db,gW];simp only[ug,aP]at hm hl hr hf;have:kn E (gR E n) F g y (gF c.args.toList ey.length)=some (r,Hn):=by
    unfold kn;simp only[hm,hl,aU,hr,eL n ‹_›,hf,lq,bL]
   simp only[this,cD,oL,bL,lS,cz,if_false]
  .cases U
 .cases U
theorem UB(n:Nat){g:Nat}{P:ρ->Prop}{R:ρ->Prop}{res:ρ->D}{az:List D}(h:∃r,P r/\R r)(fT:∀r,P r->bR E g az (res r) [])
  (k:∀r,P r->R r->c3 E f V Q (Bw E g (runM E f V n m) [] (res r)))
  (k2:∀r,P r->R r->c3 E f V Q (W9 E g (runM E f V n m) (res r)))
  (K:(pV (runM E f V n m),uP E g (dc (runM E f V n m)) (bV (runM E f V n m)) [],qy E f (runM E f V n m),Uv (cB E g (dc (runM E f V n m)) (bV (runM E f V n m))).l,(U_ E g (runM E f V n m)).isSome)=(true,true,false,true,true):=by kernel_rfl)
  (hr:DJ E g (runM E f V n m)=some az:=by kernel_rfl):c3 E f V Q m:=by
 obtain⟨r,I,aa⟩:=h;simp only[aA]at K;obtain⟨UM,UN,Mu,agx,agy⟩:=K;by_cases ag:((res r).ln&&([]:List D).all flat)=true
 .refine runK n m (C8 UM UN hr (fT r I) (by rw[if_pos ag]) ?_ (k r I aa));unfold qy at Mu;rw[Mu];rfl
 .obtain ⟨Hn,aG⟩:=aM.1 agy;have aj:=k2 r I aa;unfold W9 at aj;rw[aG]at aj;exact runK n m (adW UM UN hr (fT r I) (by rw[if_neg ag];exact aG) agx Mu aj)
end
end Go.aS
namespace Go.aS
open D
end Go.aS
namespace Go.aS
open D
section
variable{E:Env}{f:Nat}{V:List Nat}{Q:dU->Fr->Prop}{m:cL}{O:Type}
def OX(cs:List D):Option (D×Nat×Nat×Nat×List (List D)×Nat)->Option (List D)
 |some (d,_,_,c,_,k)=>bif b3 (c+k) cs.length&&((cs.drop c).take k).any node1&&bo c 0&&bo k 1 then some (cs.take c++d.cells++cs.drop (c+k))else none
 |none=>none
theorem aac{F:Fr}{o:Oper}{es:List (List D)}{i:Nat}{cs b8:List D}(h:Bv (jB E F o)=some (es,i))(aC:es[i]?=some cs)(ad:OX cs (jB E F o)=some b8):mo E F o=some ((oU (jB E F o),own (es.set i b8)),[(oU (jB E F o),[(i,0)])]):=by
 cases U:jB E F o with
 |none=>rw[U]at h;cases h
 |some z=>
  obtain⟨d,s,kA,c,es',k⟩:=z;rw[U]at h ad;simp only[Bv,aE,aA]at h;obtain⟨rfl,rfl⟩:=h;simp only[OX]at ad;cases ag:(b3 (c+k) cs.length&&((cs.drop c).take k).any node1&&bo c 0&&bo k 1)with
  |false=>rw[ag]at ad;cases ad
  |true=>
   rw[ag]at ad;simp only[cond_true,aE]at ad;subst ad;rw[aQ,aQ,aQ]at ag;have kY:=bB ag.1.1.1;have eS:=ag.1.1.2;have lu:=a6 ag.1.2;have u1:=a6 ag.2;unfold jB at U;unfold mo
   split at U
   .rename_i t x y au
    split at U
    .cases U
    .rename_i fq
     split at U
     .cases U
     .rename_i bf aw
      split at U
      .rename_i bk i2 c' zh
       split at U
       .rename_i uV ak;cases hi:((E.P.info? t).isSome&&bo bf.cells.length (aY E.P t))with
        |false=>rw[hi]at U;cases U
        |true=>
         rw[hi]at U;simp only[cond_true,aE,aA]at U;obtain⟨rfl,rfl,rfl,rfl,rfl,rfl⟩:=U;rw[aQ]at hi;have I:=hi.1;have aa:=a6 hi.2;simp only[au,fq,aw,zh,ak,aC,oU];rw[if_pos ⟨I,aa,kY⟩];rw[lu]at eS⊢;rw[u1]at aa;rw[u1]at eS;simp only[x_,u1];rw[if_pos eS];rfl
       .cases U
      .cases U
   .cases U
theorem nK(n:Nat)(e:dE O){l:List O}{i:Int}{a:O}(b:O)(h:a_ l i=some a)
  (k:c3 E f V Q (IY (runM E f V n m) [(oU (jB E (ek (runM E f V n m)) (bV (runM E f V n m))),.own ((b7 l i b).map e))] [(oU (jB E (ek (runM E f V n m)) (bV (runM E f V n m))),[(i.toNat,0)])]))
  (K:(DP E f (runM E f V n m) [(oU (jB E (ek (runM E f V n m)) (bV (runM E f V n m))),.own ((b7 l i b).map e))] [(oU (jB E (ek (runM E f V n m)) (bV (runM E f V n m))),[(i.toNat,0)])],Bv (jB E (ek (runM E f V n m)) (bV (runM E f V n m))),OX (e a) (jB E (ek (runM E f V n m)) (bV (runM E f V n m))))=(true,some (l.map e,i.toNat),some (e b)):=by kernel_rfl):c3 E f V Q m:=by
 simp only[aA]at K;obtain⟨I,aa,aB⟩:=K;have aW:mo E (ek (runM E f V n m)) (bV (runM E f V n m))=some ((oU (jB E (ek (runM E f V n m)) (bV (runM E f V n m))),.own ((b7 l i b).map e)),[(oU (jB E (ek (runM E f V n m)) (bV (runM E f V n m))),[(i.toNat,0)])]):=by
  have:=aac (i:=i.toNat) aa (cs:=e a) (by rw[cx,(hd h).2];rfl) aB;have bO:(l.map e).set i.toNat (e b)=(b7 l i b).map e:=by unfold b7;rw[List.map_set]
  rw[bO]at this;exact this
 exact runK n m ⟨Mi I (by unfold j8;simp only[aW]) k.out⟩
end
end Go.aS
