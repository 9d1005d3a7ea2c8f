/- An interpreter of function bodies, sound. No conditions. -/
import Derived.Maps.RangeRun
import Derived.Test.YtcbhcnkfefbddaaGreatDoorOwn19
import Derived.Test.YtcbhcnkfefbddaaGreatDoorOwn18
set_option linter.all false
open Array renaming getElem?_eq_some_iff->aA
open List renaming map_cons->aM
open List.cons renaming injEq->aQ
namespace Go.aS
open D
section
variable{E:Env}{n f:Nat}{V:List Nat}{F aD:Fr}{X:List (Nat×Obj)}{Q:dU->Fr->List (Nat×Obj)->Prop}{call:Nat->List D->Option (D×List D)}
def dP(E:Env)(n:Nat)(ops:Array Oper)(rest:List Nat)(F:Fr)(X:List (Nat×Obj))(Q:dU->Fr->List (Nat×Obj)->Prop):Prop:=
 ∀(R:Nat->Value)(M:Mem)(B:List Nat)(w0:World)(a:Act)(w:World)(ei:Exit->Act->World->Prop),rn n ops->Good E M->eP n R M B w0 F X a w ->
  (∀e aD X' cp w',Q e aD X'->eP n R M B w0 aD X' cp w'->ei (G4 e) cp w')->wpOps E.P ops ei rest a w
theorem dP.region{id:Nat}{ops:Array Oper}(l:List Nat)(hl:List.range ops.size=l)(h:dP E n ops l F X Q):ca E n (.region id ops false) F X Q:=
 λR M B w0 a w ei hf ak af cl=>wp_region (by rw[hl];exact h R M B w0 a w ei hf ak af cl)
theorem dP.nil{ops:Array Oper}(k:Q .normal F X):dP E n ops [] F X Q:=λ_ _ _ _ _ _ _ _ _ af cl=>cl _ _ _ _ _ k af
theorem dP.run{ops:Array Oper}{aX:Fr}(cn:lL E call)(f:Nat)(V l rest:List Nat){iG:List Nat}(hl:iG=l++rest)(h:fQ E f V call ops l F=some aX)(k:dP E n ops rest aX X Q):dP E n ops iG F X Q:=by
 subst hl;intro R M B w0 a w ei dM ak ⟨b1,bQ,i1,aT,gL⟩ cl;refine C_ cn (ak.mono aT.iW) dM l (R:=R) (M:=b1) (B:=keys (a8 bQ)) (w0:=w) ⟨b1,bQ,i1,cN.refl _ _ _⟩ h ?_;rintro cp w' ⟨M2,cr,i2,a5⟩;exact k R M B w0 cp w' ei dM ak ⟨M2,cr,i2,aT.trans a5,a5.W2 gL⟩ cl
theorem eP.norm{R:Nat->Value}{M:Mem}{B:List Nat}{w0:World}{a:Act}{w:World}(h:eP n R M B w0 F X a w)(dZ:V.Nodup):eP n R M B w0 (aS.norm V F) X a w:=by
 obtain⟨b1,bQ,i1,aT,gL⟩:=h;obtain⟨cr,i2,cK⟩:=C9 i1 dZ;refine⟨b1,cr,i2,aT.weaken cK,λb ag=>?_⟩;obtain⟨I,aa,aB,aW⟩:=gL b ag;exact⟨I,aa,λau=>aB (cK _ au),aW⟩
theorem dP.kD{ops:Array Oper}{rest:List Nat}(dZ:V.Nodup)(aD:Fr)(he:aS.norm V F=aD)(k:dP E n ops rest aD X Q):dP E n ops rest F X Q:=
 λR M B w0 a w ei dM ak af cl=>k R M B w0 a w ei dM ak (by rw[<-he];exact af.norm dZ) cl
theorem dP.value{ops:Array Oper}{rest:List Nat}{i:Nat}{o:Oper}(an:ops[i]?=some o)(ef:o.guard=none)
  (h:∀(R:Nat->Value)(M:Mem)(B:List Nat)(w0:World)(a:Act)(w:World),rn n ops->eP n R M B w0 F X a w->∃v w' aD X',(execOp a.eval o).run E.P w=.ok (.value v) w'/\eP n R M B w0 aD X' (a.put o.dst v) w'/\dP E n ops rest aD X' Q):dP E n ops (i::rest) F X Q:=by
 intro R M B w0 a w ei dM ak af cl;obtain⟨v,w',aD,X',I,aa,aB⟩:=h R M B w0 a w dM af;rw[wpOps_cons];unfold wpOp;simp only[an];have hw:Region.wanted o (yielded ops a.tmps)=true:=by unfold Region.wanted;rw[ef]
 rw[hw];simp only[if_true];exact .inl (gZ I (aB R M B w0 _ w' ei dM ak aa cl))
theorem dP.act{ops:Array Oper}{rest:List Nat}{i:Nat}{o:Oper}(an:ops[i]?=some o)(ef:o.guard=none)(ah:o.dst=none)
  (h:∀(R:Nat->Value)(M:Mem)(B:List Nat)(w0:World)(a:Act)(w:World),rn n ops->eP n R M B w0 F X a w->∃w' aD X',(execOp a.eval o).run E.P w=.ok .skip w'/\eP n R M B w0 aD X' a w'/\dP E n ops rest aD X' Q):dP E n ops (i::rest) F X Q:=by
 intro R M B w0 a w ei dM ak af cl;obtain⟨w',aD,X',I,aa,aB⟩:=h R M B w0 a w dM af;rw[wpOps_cons];unfold wpOp;simp only[an];have hw:Region.wanted o (yielded ops a.tmps)=true:=by unfold Region.wanted;rw[ef]
 rw[hw];simp only[if_true];refine .inl (CI I ?_);rw[ah];exact aB R M B w0 _ w' ei dM ak aa cl
section
variable{R:Nat->Value}{M:Mem}{B:List Nat}{w0:World}{a:Act}{w:World}
theorem eP.put(h:eP n R M B w0 F X a w){t:T}(al:t.tidy)(ae:∀M G,fg M G t)(ag:t.blocks=[])(dst:Option Nat)(ah:∀d,dst=some d->d<n):eP n R M B w0 (fin F dst t.erase) X (a.put dst t.val) w:=by
 obtain⟨b1,bQ,i1,aT,gL⟩:=h;have aO:Inv n R b1 F bQ (t.blocks++[]) a w:=by rw[ag];exact i1
 obtain⟨bS,dk,ea⟩:=Inv.put aO al (ae b1 bQ) dst ah;have aj:∀g∈keys (a8 bS),g∈keys (a8 bQ):=λg ak=>by
  have:=ea g (by simpa[keys]using ak);rw[ag]at this;simpa[keys]using this
 refine⟨b1,bS,dk,aT.weaken aj,λb ag=>?_⟩;obtain⟨I,aa,aB,aW⟩:=gL b ag;exact⟨I,aa,λau=>aB (aj _ au),aW⟩
theorem eP.I8(h:eP n R M B w0 F X a w){v:Value}(av:v.oneCell'=true)(dst:Option Nat)(ah:∀d,dst=some d->d<n):eP n R M B w0 (fin F dst (.lit v)) X (a.put dst v) w:=
 h.put (t:=.leaf (.lit v) v) (by simp[T.tidy]) (λM G=>by simp only[fg,fm,aJ,bu];exact⟨trivial,av⟩) (by simp[T.blocks]) dst ah
theorem eP.new(h:eP n R M B w0 F X a w)(o:Obj){v:Value}(av:v.oneCell'=true)(dst:Option Nat)(ah:∀d,dst=some d->d<n):
  eP n R M B w0 (fin F dst (.lit v)) ((w.heap.size,o)::X) (a.put dst v) (w.alloc o):=by
 refine eP.I8 ?_ av dst ah;obtain⟨b1,bQ,i1,aT,gL⟩:=h;have kz:∀b∈a8 bQ,b.1<w.heap.size:=λb ag=>by
  have:=i1.bd.heap b (by simpa using ag);exact(aA.1 this).1
 have aa:Inv n R b1 F bQ [] a (w.alloc o):=(i1.alloc o).less (rest:=[(w.heap.size,o)]) (by simp);have e:=(cN.refl b1 (keys (a8 bQ)) w).alloc o;refine⟨b1,bQ,aa,aT.trans { e with own:=λg ak=>.inl ak,jC:=λg o au=>.inl au },λb ag=>?_⟩;rcases List.mem_cons.1 ag with rfl|ag
 .refine ⟨?_,?_,λau=>?_,aT.size⟩
  .show (w.heap.push _)[w.heap.size]?=_;rw[Array.getElem?_push_size]
  .cases bW:b1 w.heap.size with
   |none=>rfl
   |some o=>exact absurd (i1.mem.lt bW) (Nat.lt_irrefl _)
  .obtain ⟨q,ajQ,pK⟩:=List.mem_map.1 au;have:=kz q ajQ;simp only at pK;omega
 .obtain ⟨c5,eo,h9,n2⟩:=gL b ag;have bU:b.1<w.heap.size:=(aA.1 c5).1;refine⟨?_,eo,h9,n2⟩;show(w.heap.push _)[b.1]?=_;rw[Array.getElem?_push,if_neg (by omega)];exact c5
theorem eP.fresh(h:eP n R M B w0 F X a w):∀b∈X,b.1<w.heap.size:=λb ag=>by
 obtain⟨b1,bQ,i1,aT,gL⟩:=h;exact(aA.1 (gL b ag).1).1
theorem eP.heap(h:eP n R M B w0 F X a w){b:Nat×Obj}(ag:b∈X):w.heap[b.1]?=some b.2:=by
 obtain⟨b1,bQ,i1,aT,gL⟩:=h;exact(gL b ag).1
theorem eP.lit(h:eP n R M B w0 F X a w){x:Operand}(U:Fits n x){v:Value}(an:aZ E F x=some (.lit v)):a.eval x=v:=by
 obtain⟨b1,bQ,i1,aT,gL⟩:=h;exact jd (i1.aZ U an)
theorem RX{M:Mem}{G:bK}:∀{l:List Value}{vs:List Value},ff (j1 M G) (l.map D.lit) vs->vs=l
 |[],_,h=>by cases h;rfl
 |v::l,_,h=>by
  cases h with
  |cons I aa=>
   obtain⟨_,aB|⟨aB,_⟩⟩:=I
   .simp only[aJ,bu]at aB;rw[aB.1,RX aa]
   .cases aB
theorem eP.agg(h:eP n R M B w0 F X a w){x:Operand}(U:Fits n x){l:List Value}(an:aZ E F x=some (.agg (l.map D.lit))):a.eval x=.agg l.toArray:=by
 obtain⟨b1,bQ,i1,aT,gL⟩:=h;obtain⟨vs,I,aa⟩:=i1.aZ U an;rw[I,RX aa]
theorem eP.drawn(h:eP n R M B w0 F X a w){w':World}(aO:w'.heap=w.heap)(I:w'.os=w.os)(aa:w'.tape=w.tape)(aB:w'.output=w.output):eP n R M B w0 F X a w':=by
 obtain⟨b1,bQ,i1,aT,gL⟩:=h;exact⟨b1,bQ,i1.nc aO,aT.nc aO I aa aB,λb ag=>by rw[aO];exact gL b ag⟩
theorem eP.act(h:eP n R M B w0 F X a w){cp:Act}(ae:cp.tmps.size=a.tmps.size)(ah:cp.defers=a.defers)(an:∀s∈F.map Prod.fst,cp.tmps[s]?=a.tmps[s]?):eP n R M B w0 F X cp w:=by
 obtain⟨b1,bQ,i1,aT,gL⟩:=h;refine⟨b1,bQ,{ i1 with size:=ae.trans i1.size,defers:=ah.trans i1.defers,bP:=λs t hf=>?_ },aT,gL⟩;have hm:s∈F.map Prod.fst:=by
  rw[<-i1.yD];unfold mm;rw[List.map_map];clear i1 aT gL
  induction bQ with
  |nil=>cases hf
  |cons y r aN=>
   simp only[eg]at hf
   split at hf
   .rename_i aj;simp[<-aj]
   .have:=aN hf;rw[aM];exact List.mem_cons_of_mem _ this
 have:=i1.bP s t hf;rw[an s hm];exact this
theorem eP.box(h:eP n R M B w0 F X a w){s:Nat}(ae:s<n){l:List Value}(ag:get F s=.box (l.map D.lit)):∃g e fr,a.tmps[s]?=some (.pointer (some ⟨g,0,none⟩))/\w.heap[g]?=some (.cells l.toArray e fr)/\∀b∈X,b.1≠g:=by
 obtain⟨b1,bQ,i1,aT,gL⟩:=h;have av:=i1.FB ae ag (by simp);have he:(bg bQ s).erase=.box (l.map D.lit):=by rw[<-i1.get];exact ag
 have cm:=i1.iJ s;have jI:∀b∈(bg bQ s).blocks,b∈a8 bQ:=λb ag=>by
  obtain⟨r,dk,_⟩:=Cp bQ s;exact dk.subset (List.mem_append_left _ ag)
 generalize bg bQ s=t at av he cm jI;cases t with
 |leaf d v=>simp only[T.erase]at he;subst he;simp[fg,fm,aJ,bu]at cm
 |box g e cs=>
  simp only[T.erase,D.box.injEq]at he;have ad:∀{l:List Value}{cs:List T},T.ga b1 cs->T.g7 cs=l.map D.lit->T.bP cs=l:=by
   intro l
   induction l with
   |nil=>intro cs _ h;cases cs with
    |nil=>rfl
    |cons c cs=>simp[T.g7]at h
   |cons v l aN=>
    intro cs hw h;cases cs with
    |nil=>simp[T.g7]at h
    |cons c cs=>
     simp only[T.g7,aM,aQ]at h;simp only[T.ga]at hw;simp only[T.bP,aN hw.2 h.2,aQ,and_true];cases c with
     |leaf d u=>
      have I:=h.1;simp only[T.erase]at I;subst I;rcases hw.1 with⟨h,_⟩|h
      .cases h
      .simp only[bu]at h;exact h.1
     |_=>simp[T.erase]at h
  have nf:=ad (show T.ga b1 cs from cm) he;have eE:(g,Obj.cells (T.bP cs).toArray e (0,0))∈a8 bQ:=jI _ (by simp[T.blocks]);rw[nf]at eE;refine⟨g,e,(0,0),av,i1.bd.heap _ (by simpa using eE),λb ag rO=>?_⟩;exact(gL b ag).2.2.1 (List.mem_map.2 ⟨_,eE,rO.symm⟩)
 |_=>simp[T.erase]at he
end
def jH(gs:List (ByteArray×Value)):List (Value×Nat×D×Value):=gs.zipIdx.map λx=>(.string x.1.1,x.2,.undef,x.1.2)
def kp(gs:List (ByteArray×Value)):Obj:=.map (T.entries (jH gs)) gs.length
theorem Tl{gs:List (ByteArray×Value)}{j:Nat}{x:Value×Nat×D×Value}(h:(jH gs)[j]?=some x):∃g,gs[j]?=some g/\x=(.string g.1,j,.undef,g.2):=by
 unfold jH at h;rw[List.getElem?_map,List.getElem?_zipIdx]at h;cases aj:gs[j]? with
 |none=>rw[aj]at h;cases h
 |some k=>
  rw[aj]at h;simp only[Option.map_some,Nat.zero_add,aE]at h;exact⟨k,rfl,h.symm⟩
theorem aa3{gs:List (ByteArray×Value)}{g:ByteArray×Value}:jH (gs++[g])=jH gs++[(.string g.1,gs.length,.undef,g.2)]:=by
 unfold jH;rw[List.zipIdx_append,List.map_append];simp
def pe(k:ByteArray)(gs:List (ByteArray×Value)):Option Value:=(gs.find? λg=>g.1==k).map (·.2)
theorem LI{k:ByteArray}:∀(gs:List (ByteArray×Value))(m i:Nat),(hH (.string k) ((gs.zipIdx m).map λx=>((.string x.1.1:Value),x.2,D.undef,x.1.2)) i).map (λx=>x.2.2)=pe k gs
 |[],m,i=>rfl
 |a::gs,m,i=>by
  simp only[List.zipIdx_cons,aM,hH,pe,List.find?_cons];by_cases h:k1 (.string k) (.string a.1)=true
  .rw [if_pos h];have:a.1=k:=((ml k a.1).1 (show(k==a.1)=true from h)).symm;rw[(ml a.1 k).2 this];rfl
  .rw [if_neg h];have ag:(a.1==k)=false:=by
    cases au:(a.1==k)with
    |false=>rfl
    |true=>exact absurd ((ml k a.1).2 ((ml a.1 k).1 au).symm) h
   rw[ag];exact LI gs (m+1) (i+1)
section
variable{P:Program}{t kt e:Nat}{w:World}{r:Nat}{gs:List (ByteArray×Value)}
theorem Sl(iD:P.underlying kt=some .string):∀x∈jH gs,hO P kt x.1=true:=λx U=>by
 obtain⟨j,aH⟩:=List.getElem?_of_mem U;obtain⟨s,_,rfl⟩:=Tl aH;simp[hO,iD]
theorem Yo(gq:P.underlying t=some (.map kt e))(iD:P.underlying kt=some .string)(aU:w.heap[r]?=some (kp gs)){k:ByteArray}(aj:pe k gs=none)(v:Value):
  (Instr.mapUpdate t (.map (some r)) (.string k) v).run P w=.ok () { w with heap:=w.heap.setIfInBounds r (kp (gs++[(k,v)])) }:=by
 have r5:hO P kt (.string k)=true:=by simp[hO,iD]
 have dI:w.heap[r]?=some (.map (T.entries (jH gs)) gs.length):=aU;have l3:=Cv (P:=P) r5 (Sl (gs:=gs) iD) w;have eJ:∀o,(setObj r o).run P w=.ok () { w with heap:=w.heap.setIfInBounds r o }:=λo=>by simp[setObj,Sem.run,dI]
 have I:=LI (k:=k) gs 0 0;rw[aj]at I;have I:hH (.string k) (jH gs) 0=none:=by simpa[jH]using I
 rw[I]at l3;have e:kp (gs++[(k,v)])=.map ((T.entries (jH gs)).push { key:=.string k,val:=v,born:=gs.length }) (gs.length+1):=by
  unfold kp;rw[aa3,List.length_append,List.length_singleton];congr 1;apply Array.ext';simp[T.entries]
 rw[e];unfold Instr.mapUpdate;simp only[Sem.run_bind,run_underlying gq,Result.andThen_ok,sA dI,xP r5,l3,Option.map_none,eJ]
theorem YX(gq:P.underlying t=some (.map kt e))(iD:P.underlying kt=some .string)(aU:w.heap[r]?=some (kp gs))(k:ByteArray){i:TypeInfo}{z:Value}(hi:P.info? e=some i)(aG:i.zero=some z):
  (Instr.lookup t (.map (some r)) (.string k) true).run P w=.ok (.tuple #[(pe k gs).getD z,.bool (pe k gs).isSome]) w:=by
 have r5:hO P kt (.string k)=true:=by simp[hO,iD]
 have dI:w.heap[r]?=some (.map (T.entries (jH gs)) gs.length):=aU;have l3:=Cv (P:=P) r5 (Sl (gs:=gs) iD) w;have I:(hH (.string k) (jH gs) 0).map (λx=>x.2.2)=pe k gs:=LI (k:=k) gs 0 0;unfold Instr.lookup;simp only[Sem.run_bind,run_underlying gq,Result.andThen_ok,sA dI,Sem.run_pure,xP r5,l3];cases hf:hH (.string k) (jH gs) 0 with
 |none=>
  rw[hf]at I;rw[<-I];simp[Ab hi aG]
 |some q=>
  rw[hf]at I;rw[<-I];simp
theorem Zv{es:Array MapEntry}{c:Nat}{u:Nat}(gq:P.underlying t=some (.map kt e))(aU:w.heap[r]?=some (.map es c)):(Builtin.len_ #[t] u #[.map (some r)]).run P w=.ok (goInt es.size) w:=by
 unfold Builtin.len_;simp[run_underlying gq,sA aU]
theorem YJ{es:Array MapEntry}{c:Nat}(gq:P.underlying t=some (.map kt e))(aU:w.heap[r]?=some (.map es c)):(Instr.range t (.map (some r))).run P w=.ok (.pointer (some ⟨w.heap.size,0,none⟩)) (w.alloc (.mapIter (some r) c #[] c)):=by
 unfold Instr.range;simp only[Sem.run_bind,run_underlying gq,Result.andThen_ok,sA aU,Sem.run_pure,run_newObj];rfl
theorem Yz{tM:TypeDesc}(hu:P.underlying t=some tM)(aC:h0 P t=false)(ae:aY P t=1){g c:Nat}{cs:Array Value}{el:Nat}{fr:Nat×Nat}{v:Value}(aU:w.heap[g]?=some (.cells cs el fr))(ad:cs[c]?=some v):(Instr.loadAt t (.pointer (some ⟨g,c,none⟩))).run P w=.ok v w:=by
 have:=FN (P:=P) (t:=t) (w:=w) (g:=g) (b:=c) (vs:=[v]) hu (λj u aH=>by
  cases j with
  |zero=>simp only[List.getElem?_cons_zero,aE]at aH;subst aH;simp[World.cell?,aU,ad]
  |succ j=>simp at aH) (by simp[ae]) (λ_=>ae)
 simp only[Instr.loadAt,Instr.sureAddr,Sem.run_bind,Sem.run_pure,Result.andThen_ok,this,aC];rfl
end
end
end Go.aS
