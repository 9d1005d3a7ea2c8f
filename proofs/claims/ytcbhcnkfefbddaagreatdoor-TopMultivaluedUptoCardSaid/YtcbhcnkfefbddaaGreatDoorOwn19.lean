/- An interpreter of function bodies, sound. No conditions. -/
import Derived.Test.YtcbhcnkfefbddaaGreatDoorOwn17
set_option linter.all false
open List renaming getElem?_zipIdx->aA,getElem?_map->aM
open Option renaming map_some->aQ
namespace Go.aS
open D
def Mw(X:List (Nat×Obj))(M:Mem)(G:bK)(w0 w:World):Prop:=∀b∈X,w.heap[b.1]?=some b.2/\M b.1=none/\b.1 ∉ keys (a8 G)/\w0.heap.size<=b.1
def eP(n:Nat)(R:Nat->Value)(M:Mem)(B:List Nat)(w0:World)(F:Fr)(X:List (Nat×Obj))(a:Act)(w:World):Prop:=∃b1 bQ,Inv n R b1 F bQ [] a w/\cN M B w0 b1 (keys (a8 bQ)) w/\Mw X b1 bQ w0 w
def ca(E:Env)(n:Nat)(fi:Code)(F:Fr)(X:List (Nat×Obj))(Q:dU->Fr->List (Nat×Obj)->Prop):Prop:=
 ∀(R:Nat->Value)(M:Mem)(B:List Nat)(w0:World)(a:Act)(w:World)(ei:Exit->Act->World->Prop),o_ n fi->Good E M->eP n R M B w0 F X a w ->
  (∀e aD X' cp w',Q e aD X'->eP n R M B w0 aD X' cp w'->ei (G4 e) cp w')->fi.wp E.P ei a w
section
variable{E:Env}{n f:Nat}{V:List Nat}{F aD:Fr}{X:List (Nat×Obj)}{Q:dU->Fr->List (Nat×Obj)->Prop}{call:Nat->List D->Option (D×List D)}
theorem cN.W2{M M2:Mem}{G cr:bK}{w0 w w':World}(a5:cN M (keys (a8 G)) w M2 (keys (a8 cr)) w')(h:Mw X M G w0 w):Mw X M2 cr w0 w':=by
 intro b ag;obtain⟨I,aa,aB,aW⟩:=h b ag;have bU:b.1<w.heap.size:=(Array.getElem?_eq_some_iff.1 I).1;refine⟨(a5.out b.1 bU aB).trans I,?_,λaj=>?_,aW⟩
 .cases au:M2 b.1 with
  |none=>rfl
  |some o=>
   rcases a5.jC b.1 o au with h|h|h
   .rw [aa]at h;cases h
   .exact absurd h aB
   .omega
 .rcases a5.own b.1 aj with h|h
  .exact aB h
  .omega
theorem ca.of{fi:Code}{ry:dU->Fr->Prop}(h:bG E n fi F ry)(k:∀e aD,ry e aD->Q e aD X):ca E n fi F X Q:=by
 intro R M B w0 a w ei hf ak ⟨b1,bQ,i1,aT,gL⟩ cl;refine h R b1 (keys (a8 bQ)) w a w ei hf (ak.mono aT.iW) ⟨b1,bQ,i1,cN.refl b1 _ w⟩ ?_;rintro e aD cp w' q ⟨M2,cr,i2,a5⟩;exact cl e aD X cp w' (k e aD q) ⟨M2,cr,i2,aT.trans a5,a5.W2 gL⟩
theorem bG.ak2{fi:Code}{ry:dU->Fr->Prop}(h:ca E n fi F [] λe aD _=>ry e aD):bG E n fi F ry:=by
 intro R M B w0 a w ei hf ak ⟨b1,bQ,i1,aT⟩ cl;refine h R M B w0 a w ei hf ak ⟨b1,bQ,i1,aT,λb ag=>by cases ag⟩ ?_;rintro e aD X' cp w' q ⟨M2,cr,i2,a5,_⟩;exact cl e aD cp w' q ⟨M2,cr,i2,a5⟩
theorem ca.mono{ry:dU->Fr->List (Nat×Obj)->Prop}{fi:Code}(h:ca E n fi F X Q)(k:∀e F X,Q e F X->ry e F X):ca E n fi F X ry:=
 λR M B w0 a w ei hf ak af cl=>h R M B w0 a w ei hf ak af λe aD X' cp w' q=>cl e aD X' cp w' (k e aD X' q)
def afW(E:Env)(n:Nat)(b:Code)(Q:dU->Fr->List (Nat×Obj)->Prop):dU->Fr->List (Nat×Obj)->Prop
 | .normal,F,X=>ca E n b F X Q
 |e,F,X=>Q e F X
theorem ca.seq{a b:Code}(h:ca E n a F X (afW E n b Q)):ca E n (.seq a b) F X Q:=by
 intro R M B w0 x w ei hf ak af cl;refine wp_seq (h R M B w0 x w _ hf.1 ak af ?_);intro e aD X' cp w' q fy;cases e with
 |normal=>exact q R M B w0 cp w' ei hf.2 ak fy cl
 |exit id=>exact cl _ _ _ _ _ q fy
 |ret=>exact cl _ _ _ _ _ q fy
theorem ca.cond{y:Operand}{a b:Code}{t:Bool}(aw:aZ E F y=some (.lit (.bool t)))(I:t=true->ca E n a F X Q)(aa:t=false->ca E n b F X Q):ca E n (.cond y a b) F X Q:=by
 intro R M B w0 x w ei hf ak af cl;obtain⟨b1,bQ,i1,aT,gL⟩:=af;have ag:=jd (i1.aZ hf.1 aw);refine wp_cond ag ?_;cases t with
 |true=>exact I rfl R M B w0 x w ei hf.2.1 ak ⟨b1,bQ,i1,aT,gL⟩ cl
 |false=>exact aa rfl R M B w0 x w ei hf.2.2 ak ⟨b1,bQ,i1,aT,gL⟩ cl
def TN(id:Nat)(Q:dU->Fr->List (Nat×Obj)->Prop):dU->Fr->List (Nat×Obj)->Prop
 | .exit i,F,X=>if i=id then Q .normal F X else Q (.exit i) F X
 |e,F,X=>Q e F X
theorem ca.block{id:Nat}{b:Code}(h:ca E n b F X (TN id Q)):ca E n (.block id b) F X Q:=by
 intro R M B w0 x w ei hf ak af cl;refine wp_block (h R M B w0 x w _ hf ak af ?_);intro e aD X' cp w' q fy;cases e with
 |normal=>exact cl _ _ _ _ _ q fy
 |ret=>exact cl _ _ _ _ _ q fy
 |exit i=>
  show(if i=id then ei .normal cp w' else ei (.exit i) cp w');simp only[TN]at q
  split at q
  .rename_i hi;rw[if_pos hi];exact cl _ _ _ _ _ q fy
  .rename_i hi;rw[if_neg hi];exact cl _ _ _ _ _ q fy
def GZ(E:Env)(n:Nat)(b:Code)(Q:dU->Fr->List (Nat×Obj)->Prop):Nat->Fr->List (Nat×Obj)->Prop
 |0,_,_=>False
 |k+1,F,X=>ca E n b F X λe aX wR=>match e with
  | .normal=>GZ E n b Q k aX wR
  |e=>Q e aX wR
theorem ca.loop{b:Code}(k:Nat)(h:GZ E n b Q k F X):ca E n (.loop b) F X Q:=by
 intro R M B w0 x w ei hf ak af cl;refine wp_loop_rounds k ?_;have key:∀(k:Nat){F:Fr}{X:List (Nat×Obj)}{a:Act}{w:World},GZ E n b Q k F X->eP n R M B w0 F X a w->Code.rounds E.P b ei k a w:=by
  intro k
  induction k with
  |zero=>intro F X a w h _;exact h.elim
  |succ k aN=>
   intro F X a w h af;rw[rounds_succ];refine h R M B w0 a w _ hf ak af ?_;intro e aD X' cp w' q fy;cases e with
   |normal=>exact aN q fy
   |exit id=>exact cl _ _ _ _ _ q fy
   |ret=>exact cl _ _ _ _ _ q fy
 exact key k h af
theorem ca.Bu{b:Code}(P:Nat->Fr->List (Nat×Obj)->Prop)(aO:∀F X,¬P 0 F X)(ae:∀k F X,P (k+1) F X->ca E n b F X λe aX wR=>match e with
  | .normal=>P k aX wR
  |e=>Q e aX wR) (k:Nat) (h:P k F X):ca E n (.loop b) F X Q:=by
 refine ca.loop k ?_;have key:∀(k:Nat)(F:Fr)(X:List (Nat×Obj)),P k F X->GZ E n b Q k F X:=by
  intro k
  induction k with
  |zero=>intro F X h;exact absurd h (aO F X)
  |succ k aN=>
   intro F X h;refine ca.mono (ae k F X h) λe aX wR q=>?_;cases e with
   |normal=>exact aN aX wR q
   |exit i=>exact q
   |ret=>exact q
 exact key k F X h
theorem ca.region(cn:lL E call)(hm:E.P.follows .mixedOrders=true)(f:Nat)(V:List Nat)(dZ:V.Nodup){id:Nat}{ops:Array Oper}{d:Bool}(aD:Fr)(h:k8 E f V call ops d F=some aD)(k:Q .normal aD X):ca E n (.region id ops d) F X Q:=
 ca.of (bG.region cn hm f V dZ aD h (Q:=λe aX=>e=.normal/\aX=aD) ⟨rfl,rfl⟩) (by rintro _ _ ⟨rfl,rfl⟩;exact k)
theorem ca.skip(k:Q .normal F X):ca E n .skip F X Q:=ca.of (bG.skip (Q:=λe aD=>e=.normal/\aD=F) ⟨rfl,rfl⟩) (by rintro _ _ ⟨rfl,rfl⟩;exact k)
theorem ca.ret(k:Q .ret F X):ca E n .ret F X Q:=ca.of (bG.ret (Q:=λe aD=>e=.ret/\aD=F) ⟨rfl,rfl⟩) (by rintro _ _ ⟨rfl,rfl⟩;exact k)
theorem ca.exit{id:Nat}(k:Q (.exit id) F X):ca E n (.exit id) F X Q:=ca.of (bG.exit (Q:=λe aD=>e=.exit id/\aD=F) ⟨rfl,rfl⟩) (by rintro _ _ ⟨rfl,rfl⟩;exact k)
theorem ca.kD{fi:Code}{V:List Nat}(dZ:V.Nodup)(aD:Fr)(he:aS.norm V F=aD)(h:ca E n fi aD X Q):ca E n fi F X Q:=by
 intro R M B w0 a w ei hf ak ⟨b1,bQ,i1,aT,gL⟩ cl;obtain⟨cr,i2,cK⟩:=C9 i1 dZ;rw[he]at i2;refine h R M B w0 a w ei hf ak ⟨b1,cr,i2,aT.weaken cK,λb ag=>?_⟩ cl;obtain⟨I,aa,aB,aW⟩:=gL b ag;exact⟨I,aa,λau=>aB (cK _ au),aW⟩
end
end Go.aS
namespace Go.aS
open D
def mg(ks:List ByteArray):List (Value×Nat×D×Value):=ks.zipIdx.map λx=>(.string x.1,x.2,.lit (.bool true),.bool true)
def dX(ks:List ByteArray):Obj:=.map (T.entries (mg ks)) ks.length
def gw(k:ByteArray)(ks:List ByteArray):List ByteArray:=if(ks.any λa=>k==a)=true then ks else ks++[k]
theorem Ji{k:ByteArray}{ks:List ByteArray}:(ks.any λa=>k==a)=true↔k∈ks:=by
 rw[List.any_eq_true];constructor
 .rintro ⟨a,aC,h⟩;rw[(ml k a).1 h];exact aC
 .intro h;exact⟨k,h,(ml k k).2 rfl⟩
def hj(l:List ByteArray):List ByteArray:=l.foldl (λacc k=>gw k acc) []
theorem acK{ks:List ByteArray}{j:Nat}{x:Value×Nat×D×Value}(h:(mg ks)[j]?=some x):∃k,ks[j]?=some k/\x=(.string k,j,.lit (.bool true),.bool true):=by
 unfold mg at h;rw[aM,aA]at h;cases aj:ks[j]? with
 |none=>rw[aj]at h;cases h
 |some k=>
  rw[aj]at h;simp only[aQ,Nat.zero_add,aE]at h;exact⟨k,rfl,h.symm⟩
theorem abp{ks:List ByteArray}{k:ByteArray}:mg (ks++[k])=mg ks++[(.string k,ks.length,.lit (.bool true),.bool true)]:=by
 unfold mg;rw[List.zipIdx_append,List.map_append];simp
theorem TS{k:ByteArray}:∀(ks:List ByteArray)(m i:Nat),(hH (.string k) ((ks.zipIdx m).map λx=>((.string x.1:Value),x.2,D.lit (.bool true),Value.bool true)) i=none/\k ∉ ks)∨(∃j,hH (.string k) ((ks.zipIdx m).map λx=>((.string x.1:Value),x.2,D.lit (.bool true),Value.bool true)) i=some (i+j,.lit (.bool true),.bool true)/\ks[j]?=some k)
 |[],m,i=>.inl ⟨rfl,by simp⟩
 |a::ks,m,i=>by
  simp only[List.zipIdx_cons,List.map_cons,hH];by_cases h:k1 (.string k) (.string a)=true
  .rw [if_pos h];exact .inr ⟨0,by rw[Nat.add_zero],by rw[(ml k a).1 (show(k==a)=true from h)];rfl⟩
  .rw [if_neg h];have cI:k≠a:=λhe=>h ((ml k a).2 he);rcases TS ks (m+1) (i+1)with⟨I,aa⟩|⟨j,I,aa⟩
   .exact .inl ⟨I,by simp[cI,aa]⟩
   .exact .inr ⟨j+1,by rw[I,show i+1+j=i+(j+1) by omega],by simpa using aa⟩
theorem JJ{P:Program}{t kt e:Nat}(gq:P.underlying t=some (.map kt e))(iD:P.underlying kt=some .string){w:World}{r:Nat}{ks:List ByteArray}(aU:w.heap[r]?=some (dX ks))(k:ByteArray):
  (Instr.mapUpdate t (.map (some r)) (.string k) (.bool true)).run P w=.ok () { w with heap:=w.heap.setIfInBounds r (dX (gw k ks)) }:=by
 have r5:∀s:ByteArray,hO P kt (.string s)=true:=λs=>by simp[hO,iD]
 have fk:∀x∈mg ks,hO P kt x.1=true:=λx U=>by
  obtain⟨j,aH⟩:=List.getElem?_of_mem U;obtain⟨s,_,rfl⟩:=acK aH;exact r5 s
 have dI:w.heap[r]?=some (.map (T.entries (mg ks)) ks.length):=aU;have l3:=Cv (P:=P) (r5 k) fk w;have eJ:∀o,(setObj r o).run P w=.ok () { w with heap:=w.heap.setIfInBounds r o }:=λo=>by simp[setObj,Sem.run,dI]
 unfold Instr.mapUpdate;rcases TS (k:=k) ks 0 0 with⟨I,aa⟩|⟨j,I,aa⟩
 .have I:hH (.string k) (mg ks) 0=none:=I;rw[I]at l3;have e:dX (gw k ks)=.map ((T.entries (mg ks)).push { key:=.string k,val:=.bool true,born:=ks.length }) (ks.length+1):=by
   unfold gw dX;rw[if_neg (λh=>aa (Ji.1 h)),abp,List.length_append,List.length_singleton];congr 1;apply Array.ext';simp[T.entries]
  rw[e];simp only[Sem.run_bind,run_underlying gq,Result.andThen_ok,sA dI,xP (r5 k),l3,Option.map_none,eJ]
 .have I:hH (.string k) (mg ks) 0=some (j,.lit (.bool true),.bool true):=by
   have:=I;rw[Nat.zero_add]at this;exact this
  rw[I]at l3;have gz:(mg ks)[j]?=some (.string k,j,.lit (.bool true),.bool true):=by
   unfold mg;rw[aM,aA,aa];simp
  have yS:(T.entries (mg ks))[j]?=some { key:=.string k,val:=.bool true,born:=j }:=by simp[T.entries,gz]
  have Og:=QL (r5 k);have e:dX (gw k ks)=.map ((T.entries (mg ks)).modify j λe=>{ e with key:=.string k,val:=.bool true }) ks.length:=by
   unfold gw dX;rw[if_pos (Ji.2 (List.mem_of_getElem? aa))];congr 1;apply Array.ext_getElem?;intro q;rw[Array.getElem?_modify];by_cases au:j=q
   .subst au;rw[if_pos rfl,yS];rfl
   .rw [if_neg au]
  rw[e];simp only[Sem.run_bind,run_underlying gq,Result.andThen_ok,sA dI,xP (r5 k),l3,aQ,Instr.keyThatStays,yS,Option.getD_some,Og,if_true,Sem.run_pure,eJ]
end Go.aS
