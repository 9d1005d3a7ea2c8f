/- An interpreter of function bodies, sound. No conditions. -/
import Derived.Maps.RangeRun
import Derived.Test.YtmiedlcblpiemaaGreatDoorOwn20
import Derived.Test.YtmiedlcblpiemaaGreatDoorOwn19
set_option linter.all false
open Array renaming getElem?_eq_some_iff->zA
open List renaming map_cons->zB
open List.cons renaming injEq->zC
namespace Go.Own
open D
section
variable{E:Env}{n f:Nat}{V:List Nat}{F F':Fr}{X:List (Nat×Obj)}{Q:Ex->Fr->List (Nat×Obj)->Prop}{call:Nat->List D->Option (D×List D)}
def WX(E:Env)(n:Nat)(ops:Array Oper)(rest:List Nat)(F:Fr)(X:List (Nat×Obj))(Q:Ex->Fr->List (Nat×Obj)->Prop):Prop:=
 ∀(R:Nat->Value)(M:Mem)(B:List Nat)(w0:World)(a:Act)(w:World)(Qw:Exit->Act->World->Prop),Ag0 n ops->Good E M->Aav n R M B w0 F X a w ->
  (∀e F' X' a' w',Q e F' X'->Aav n R M B w0 F' X' a' w'->Qw (Atn e) a' w')->wpOps E.P ops Qw rest a w
theorem WX.region{id:Nat}{ops:Array Oper}(l:List Nat)(hl:List.range ops.size=l)(h:WX E n ops l F X Q):ToMX E n (.region id ops false) F X Q:=
 fun R M B w0 a w Qw hf hg hp hQ=>wp_region (by rw[hl];exact h R M B w0 a w Qw hf hg hp hQ)
theorem WX.nil{ops:Array Oper}(k:Q .normal F X):WX E n ops [] F X Q:=fun _ _ _ _ _ _ _ _ _ hp hQ=>hQ _ _ _ _ _ k hp
theorem WX.run{ops:Array Oper}{F1:Fr}(hcall:Acr E call)(f:Nat)(V l rest:List Nat){l0:List Nat}(hl:l0=l++rest)(h:opsC E f V call ops l F=some F1)(k:WX E n ops rest F1 X Q):WX E n ops l0 F X Q:=by
 subst hl;intro R M B w0 a w Qw hfit hg ⟨M1,G1,i1,e1,ox⟩ hQ;refine An8 hcall (hg.mono e1.memle) hfit l (R:=R) (M:=M1) (B:=keys (Aa0 G1)) (w0:=w) ⟨M1,G1,i1,Evo.refl _ _ _⟩ h ?_;rintro a' w' ⟨M2,G2,i2,e2⟩;exact k R M B w0 a' w' Qw hfit hg ⟨M2,G2,i2,e1.trans e2,e2.keepX ox⟩ hQ
theorem Aav.norm{R:Nat->Value}{M:Mem}{B:List Nat}{w0:World}{a:Act}{w:World}(h:Aav n R M B w0 F X a w)(hV:V.Nodup):Aav n R M B w0 (Own.norm V F) X a w:=by
 obtain⟨M1,G1,i1,e1,ox⟩:=h;obtain⟨G2,i2,b2⟩:=An6 i1 hV;refine⟨M1,G2,i2,e1.weaken b2,fun b hb=>?_⟩;obtain⟨h1,h2,h3,h4⟩:=ox b hb;exact⟨h1,h2,fun hq=>h3 (b2 _ hq),h4⟩
theorem WX.normed{ops:Array Oper}{rest:List Nat}(hV:V.Nodup)(F':Fr)(he:Own.norm V F=F')(k:WX E n ops rest F' X Q):WX E n ops rest F X Q:=
 fun R M B w0 a w Qw hfit hg hp hQ=>k R M B w0 a w Qw hfit hg (by rw[<-he];exact hp.norm hV) hQ
theorem WX.value{ops:Array Oper}{rest:List Nat}{i:Nat}{o:Oper}(ho:ops[i]?=some o)(hgd:o.guard=none)
  (h:∀(R:Nat->Value)(M:Mem)(B:List Nat)(w0:World)(a:Act)(w:World),Ag0 n ops->Aav n R M B w0 F X a w->∃v w' F' X',(execOp a.eval o).run E.P w=.ok (.value v) w'/\Aav n R M B w0 F' X' (a.put o.dst v) w'/\WX E n ops rest F' X' Q):WX E n ops (i::rest) F X Q:=by
 intro R M B w0 a w Qw hfit hg hp hQ;obtain⟨v,w',F',X',h1,h2,h3⟩:=h R M B w0 a w hfit hp;rw[wpOps_cons];unfold wpOp;simp only[ho];have hw:Region.wanted o (yielded ops a.tmps)=true:=by unfold Region.wanted;rw[hgd]
 rw[hw];simp only[if_true];exact .inl (Aaa h1 (h3 R M B w0 _ w' Qw hfit hg h2 hQ))
theorem WX.act{ops:Array Oper}{rest:List Nat}{i:Nat}{o:Oper}(ho:ops[i]?=some o)(hgd:o.guard=none)(hd:o.dst=none)
  (h:∀(R:Nat->Value)(M:Mem)(B:List Nat)(w0:World)(a:Act)(w:World),Ag0 n ops->Aav n R M B w0 F X a w->∃w' F' X',(execOp a.eval o).run E.P w=.ok .skip w'/\Aav n R M B w0 F' X' a w'/\WX E n ops rest F' X' Q):WX E n ops (i::rest) F X Q:=by
 intro R M B w0 a w Qw hfit hg hp hQ;obtain⟨w',F',X',h1,h2,h3⟩:=h R M B w0 a w hfit hp;rw[wpOps_cons];unfold wpOp;simp only[ho];have hw:Region.wanted o (yielded ops a.tmps)=true:=by unfold Region.wanted;rw[hgd]
 rw[hw];simp only[if_true];refine .inl (Aiq h1 ?_);rw[hd];exact h3 R M B w0 _ w' Qw hfit hg h2 hQ
section
variable{R:Nat->Value}{M:Mem}{B:List Nat}{w0:World}{a:Act}{w:World}
theorem Aav.put(h:Aav n R M B w0 F X a w){t:T}(ht:t.tidy)(hs:∀M G,Aat M G t)(hb:t.blocks=[])(dst:Option Nat)(hd:∀d,dst=some d->d<n):Aav n R M B w0 (fin F dst t.erase) X (a.put dst t.val) w:=by
 obtain⟨M1,G1,i1,e1,ox⟩:=h;have h0:Inv n R M1 F G1 (t.blocks++[]) a w:=by rw[hb];exact i1
 obtain⟨G',p1,p2⟩:=Inv.put h0 ht (hs M1 G1) dst hd;have hk:∀g∈keys (Aa0 G'),g∈keys (Aa0 G1):=fun g hg=>by
  have:=p2 g (by simpa[keys]using hg);rw[hb]at this;simpa[keys]using this
 refine⟨M1,G',p1,e1.weaken hk,fun b hb=>?_⟩;obtain⟨h1,h2,h3,h4⟩:=ox b hb;exact⟨h1,h2,fun hq=>h3 (hk _ hq),h4⟩
theorem Aav.putLit(h:Aav n R M B w0 F X a w){v:Value}(hv:v.oneCell'=true)(dst:Option Nat)(hd:∀d,dst=some d->d<n):Aav n R M B w0 (fin F dst (.lit v)) X (a.put dst v) w:=
 h.put (t:=.leaf (.lit v) v) (by simp[T.tidy]) (fun M G=>by simp only[Aat,LOK,L1,RI];exact⟨trivial,hv⟩) (by simp[T.blocks]) dst hd
theorem Aav.new(h:Aav n R M B w0 F X a w)(o:Obj){v:Value}(hv:v.oneCell'=true)(dst:Option Nat)(hd:∀d,dst=some d->d<n):
  Aav n R M B w0 (fin F dst (.lit v)) ((w.heap.size,o)::X) (a.put dst v) (w.alloc o):=by
 refine Aav.putLit ?_ hv dst hd;obtain⟨M1,G1,i1,e1,ox⟩:=h;have hnew:∀b∈Aa0 G1,b.1<w.heap.size:=fun b hb=>by
  have:=i1.blk.heap b (by simpa using hb);exact(zA.1 this).1
 have h2:Inv n R M1 F G1 [] a (w.alloc o):=(i1.alloc o).less (rest:=[(w.heap.size,o)]) (by simp);have e:=(Evo.refl M1 (keys (Aa0 G1)) w).alloc o;refine⟨M1,G1,h2,e1.trans { e with own:=fun g hg=>.inl hg,memnew:=fun g o hq=>.inl hq },fun b hb=>?_⟩;rcases List.mem_cons.1 hb with rfl|hb
 .refine ⟨?_,?_,fun hq=>?_,e1.size⟩
  .show (w.heap.push _)[w.heap.size]?=_;rw[Array.getElem?_push_size]
  .cases hM:M1 w.heap.size with
   |none=>rfl
   |some o=>exact absurd (i1.mem.lt hM) (Nat.lt_irrefl _)
  .obtain ⟨q,hq1,hq2⟩:=List.mem_map.1 hq;have:=hnew q hq1;simp only at hq2;omega
 .obtain ⟨g1,g2,g3,g4⟩:=ox b hb;have hlt:b.1<w.heap.size:=(zA.1 g1).1;refine⟨?_,g2,g3,g4⟩;show(w.heap.push _)[b.1]?=_;rw[Array.getElem?_push,if_neg (by omega)];exact g1
theorem Aav.fresh(h:Aav n R M B w0 F X a w):∀b∈X,b.1<w.heap.size:=fun b hb=>by
 obtain⟨M1,G1,i1,e1,ox⟩:=h;exact(zA.1 (ox b hb).1).1
theorem Aav.heap(h:Aav n R M B w0 F X a w){b:Nat×Obj}(hb:b∈X):w.heap[b.1]?=some b.2:=by
 obtain⟨M1,G1,i1,e1,ox⟩:=h;exact(ox b hb).1
theorem Aav.lit(h:Aav n R M B w0 F X a w){x:Operand}(hx:Fits n x){v:Value}(ho:opd E F x=some (.lit v)):a.eval x=v:=by
 obtain⟨M1,G1,i1,e1,ox⟩:=h;exact Abi (i1.opd hx ho)
theorem Aw9{M:Mem}{G:FT}:∀{l:List Value}{vs:List Value},All2 (VC M G) (l.map D.lit) vs->vs=l
 |[],_,h=>by cases h;rfl
 |v::l,_,h=>by
  cases h with
  |cons h1 h2=>
   obtain⟨_,h3|⟨h3,_⟩⟩:=h1
   .simp only[L1,RI]at h3;rw[h3.1,Aw9 h2]
   .cases h3
theorem Aav.agg(h:Aav n R M B w0 F X a w){x:Operand}(hx:Fits n x){l:List Value}(ho:opd E F x=some (.agg (l.map D.lit))):a.eval x=.agg l.toArray:=by
 obtain⟨M1,G1,i1,e1,ox⟩:=h;obtain⟨vs,h1,h2⟩:=i1.opd hx ho;rw[h1,Aw9 h2]
theorem Aav.drawn(h:Aav n R M B w0 F X a w){w':World}(h0:w'.heap=w.heap)(h1:w'.os=w.os)(h2:w'.tape=w.tape)(h3:w'.output=w.output):Aav n R M B w0 F X a w':=by
 obtain⟨M1,G1,i1,e1,ox⟩:=h;exact⟨M1,G1,i1.heapEq h0,e1.heapEq h0 h1 h2 h3,fun b hb=>by rw[h0];exact ox b hb⟩
theorem Aav.act(h:Aav n R M B w0 F X a w){a':Act}(hs:a'.tmps.size=a.tmps.size)(hd:a'.defers=a.defers)(ho:∀s∈F.map Prod.fst,a'.tmps[s]?=a.tmps[s]?):Aav n R M B w0 F X a' w:=by
 obtain⟨M1,G1,i1,e1,ox⟩:=h;refine⟨M1,G1,{ i1 with size:=hs.trans i1.size,defers:=hd.trans i1.defers,vals:=fun s t hf=>?_ },e1,ox⟩;have hm:s∈F.map Prod.fst:=by
  rw[<-i1.er];unfold Adm;rw[List.map_map];clear i1 e1 ox
  induction G1 with
  |nil=>cases hf
  |cons y r ih=>
   simp only[Aao]at hf
   split at hf
   .rename_i hk;simp[<-hk]
   .have:=ih hf;rw[zB];exact List.mem_cons_of_mem _ this
 have:=i1.vals s t hf;rw[ho s hm];exact this
theorem Aav.box(h:Aav n R M B w0 F X a w){s:Nat}(hs:s<n){l:List Value}(hb:get F s=.box (l.map D.lit)):∃g e fr,a.tmps[s]?=some (.pointer (some ⟨g,0,none⟩))/\w.heap[g]?=some (.cells l.toArray e fr)/\∀b∈X,b.1≠g:=by
 obtain⟨M1,G1,i1,e1,ox⟩:=h;have hv:=i1.slot_lit hs hb (by simp);have he:(getT G1 s).erase=.box (l.map D.lit):=by rw[<-i1.get];exact hb
 have hok:=i1.okG s;have hbl:∀b∈(getT G1 s).blocks,b∈Aa0 G1:=fun b hb=>by
  obtain⟨r,p1,_⟩:=Ag2 G1 s;exact p1.subset (List.mem_append_left _ hb)
 generalize getT G1 s=t at hv he hok hbl;cases t with
 |leaf d v=>simp only[T.erase]at he;subst he;simp[Aat,LOK,L1,RI]at hok
 |box g e cs=>
  simp only[T.erase,D.box.injEq]at he;have hc:∀{l:List Value}{cs:List T},T.wfC M1 cs->T.eraseC cs=l.map D.lit->T.vals cs=l:=by
   intro l
   induction l with
   |nil=>intro cs _ h;cases cs with
    |nil=>rfl
    |cons c cs=>simp[T.eraseC]at h
   |cons v l ih=>
    intro cs hw h;cases cs with
    |nil=>simp[T.eraseC]at h
    |cons c cs=>
     simp only[T.eraseC,zB,zC]at h;simp only[T.wfC]at hw;simp only[T.vals,ih hw.2 h.2,zC,and_true];cases c with
     |leaf d u=>
      have h1:=h.1;simp only[T.erase]at h1;subst h1;rcases hw.1 with⟨h,_⟩|h
      .cases h
      .simp only[RI]at h;exact h.1
     |_=>simp[T.erase]at h
  have hvs:=hc (show T.wfC M1 cs from hok) he;have hmem:(g,Obj.cells (T.vals cs).toArray e (0,0))∈Aa0 G1:=hbl _ (by simp[T.blocks]);rw[hvs]at hmem;refine⟨g,e,(0,0),hv,i1.blk.heap _ (by simpa using hmem),fun b hb hbg=>?_⟩;exact(ox b hb).2.2.1 (List.mem_map.2 ⟨_,hmem,hbg.symm⟩)
 |_=>simp[T.erase]at he
end
def gEnt(gs:List (ByteArray×Value)):List (Value×Nat×D×Value):=gs.zipIdx.map fun x=>(.string x.1.1,x.2,.undef,x.1.2)
def gMap(gs:List (ByteArray×Value)):Obj:=.map (T.entries (gEnt gs)) gs.length
theorem Azr{gs:List (ByteArray×Value)}{j:Nat}{x:Value×Nat×D×Value}(h:(gEnt gs)[j]?=some x):∃g,gs[j]?=some g/\x=(.string g.1,j,.undef,g.2):=by
 unfold gEnt at h;rw[List.getElem?_map,List.getElem?_zipIdx]at h;cases hk:gs[j]? with
 |none=>rw[hk]at h;cases h
 |some k=>
  rw[hk]at h;simp only[Option.map_some,Nat.zero_add,zJ]at h;exact⟨k,rfl,h.symm⟩
theorem Bfp{gs:List (ByteArray×Value)}{g:ByteArray×Value}:gEnt (gs++[g])=gEnt gs++[(.string g.1,gs.length,.undef,g.2)]:=by
 unfold gEnt;rw[List.zipIdx_append,List.map_append];simp
def Agr(k:ByteArray)(gs:List (ByteArray×Value)):Option Value:=(gs.find? fun g=>g.1==k).map (·.2)
theorem Avl{k:ByteArray}:∀(gs:List (ByteArray×Value))(m i:Nat),(Ac5 (.string k) ((gs.zipIdx m).map fun x=>((.string x.1.1:Value),x.2,D.undef,x.1.2)) i).map (fun x=>x.2.2)=Agr k gs
 |[],m,i=>rfl
 |a::gs,m,i=>by
  simp only[List.zipIdx_cons,zB,Ac5,Agr,List.find?_cons];by_cases h:keyBeq (.string k) (.string a.1)=true
  .rw [if_pos h];have:a.1=k:=((Adl k a.1).1 (show(k==a.1)=true from h)).symm;rw[(Adl a.1 k).2 this];rfl
  .rw [if_neg h];have hb:(a.1==k)=false:=by
    cases hq:(a.1==k)with
    |false=>rfl
    |true=>exact absurd ((Adl k a.1).2 ((Adl a.1 k).1 hq).symm) h
   rw[hb];exact Avl gs (m+1) (i+1)
section
variable{P:Program}{t kt e:Nat}{w:World}{r:Nat}{gs:List (ByteArray×Value)}
theorem Ax2(hkt:P.underlying kt=some .string):∀x∈gEnt gs,keyT P kt x.1=true:=fun x hx=>by
 obtain⟨j,hj⟩:=List.getElem?_of_mem hx;obtain⟨s,_,rfl⟩:=Azr hj;simp[keyT,hkt]
theorem Auu(hut:P.underlying t=some (.map kt e))(hkt:P.underlying kt=some .string)(hh:w.heap[r]?=some (gMap gs)){k:ByteArray}(hk:Agr k gs=none)(v:Value):
  (Instr.mapUpdate t (.map (some r)) (.string k) v).run P w=.ok () { w with heap:=w.heap.setIfInBounds r (gMap (gs++[(k,v)])) }:=by
 have kT:keyT P kt (.string k)=true:=by simp[keyT,hkt]
 have hblk:w.heap[r]?=some (.map (T.entries (gEnt gs)) gs.length):=hh;have hfind:=Ahc (P:=P) kT (Ax2 (gs:=gs) hkt) w;have hset:∀o,(setObj r o).run P w=.ok () { w with heap:=w.heap.setIfInBounds r o }:=fun o=>by simp[setObj,Sem.run,hblk]
 have h1:=Avl (k:=k) gs 0 0;rw[hk]at h1;have h1:Ac5 (.string k) (gEnt gs) 0=none:=by simpa[gEnt]using h1
 rw[h1]at hfind;have e:gMap (gs++[(k,v)])=.map ((T.entries (gEnt gs)).push { key:=.string k,val:=v,born:=gs.length }) (gs.length+1):=by
  unfold gMap;rw[Bfp,List.length_append,List.length_singleton];congr 1;apply Array.ext';simp[T.entries]
 rw[e];unfold Instr.mapUpdate;simp only[Sem.run_bind,run_underlying hut,Result.andThen_ok,Adi hblk,Aec kT,hfind,Option.map_none,hset]
theorem Bau(hut:P.underlying t=some (.map kt e))(hkt:P.underlying kt=some .string)(hh:w.heap[r]?=some (gMap gs))(k:ByteArray){i:TypeInfo}{z:Value}(hi:P.info? e=some i)(hz:i.zero=some z):
  (Instr.lookup t (.map (some r)) (.string k) true).run P w=.ok (.tuple #[(Agr k gs).getD z,.bool (Agr k gs).isSome]) w:=by
 have kT:keyT P kt (.string k)=true:=by simp[keyT,hkt]
 have hblk:w.heap[r]?=some (.map (T.entries (gEnt gs)) gs.length):=hh;have hfind:=Ahc (P:=P) kT (Ax2 (gs:=gs) hkt) w;have h1:(Ac5 (.string k) (gEnt gs) 0).map (fun x=>x.2.2)=Agr k gs:=Avl (k:=k) gs 0 0;unfold Instr.lookup;simp only[Sem.run_bind,run_underlying hut,Result.andThen_ok,Adi hblk,Sem.run_pure,Aec kT,hfind];cases hf:Ac5 (.string k) (gEnt gs) 0 with
 |none=>
  rw[hf]at h1;rw[<-h1];simp[Ajb hi hz]
 |some q=>
  rw[hf]at h1;rw[<-h1];simp
theorem Bbx{es:Array MapEntry}{c:Nat}{u:Nat}(hut:P.underlying t=some (.map kt e))(hh:w.heap[r]?=some (.map es c)):(Builtin.len_ #[t] u #[.map (some r)]).run P w=.ok (goInt es.size) w:=by
 unfold Builtin.len_;simp[run_underlying hut,Adi hh]
theorem Ay3{es:Array MapEntry}{c:Nat}(hut:P.underlying t=some (.map kt e))(hh:w.heap[r]?=some (.map es c)):(Instr.range t (.map (some r))).run P w=.ok (.pointer (some ⟨w.heap.size,0,none⟩)) (w.alloc (.mapIter (some r) c #[] c)):=by
 unfold Instr.range;simp only[Sem.run_bind,run_underlying hut,Result.andThen_ok,Adi hh,Sem.run_pure,run_newObj];rfl
theorem Aw3{td:TypeDesc}(hu:P.underlying t=some td)(ha:isAggT P t=false)(hs:sizeT P t=1){g c:Nat}{cs:Array Value}{el:Nat}{fr:Nat×Nat}{v:Value}(hh:w.heap[g]?=some (.cells cs el fr))(hc:cs[c]?=some v):(Instr.loadAt t (.pointer (some ⟨g,c,none⟩))).run P w=.ok v w:=by
 have:=Agx (P:=P) (t:=t) (w:=w) (g:=g) (b:=c) (vs:=[v]) hu (fun j u hj=>by
  cases j with
  |zero=>simp only[List.getElem?_cons_zero,zJ]at hj;subst hj;simp[World.cell?,hh,hc]
  |succ j=>simp at hj) (by simp[hs]) (fun _=>hs)
 simp only[Instr.loadAt,Instr.sureAddr,Sem.run_bind,Sem.run_pure,Result.andThen_ok,this,ha];rfl
end
end
end Go.Own
