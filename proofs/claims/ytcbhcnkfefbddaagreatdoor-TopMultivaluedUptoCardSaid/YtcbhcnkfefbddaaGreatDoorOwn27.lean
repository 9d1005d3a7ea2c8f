/- An interpreter of function bodies, sound. No conditions. -/
import Derived.OrdersHeld
import Derived.Test.YtcbhcnkfefbddaaGreatDoorOwn25
set_option linter.all false
open Array renaming getElem?_setIfInBounds->aA,getD_eq_getD_getElem?->aQ
open List renaming mem_map->aM
open Prod renaming fst->a6
namespace Go.aS
open D
def yj(k:Nat):Code->Option (Array Oper×Bool)
 | .region id ops d=>if Nat.beq id k then some (ops,d)else none
 | .seq a b=>match yj k a with
  |some x=>some x
  |none=>yj k b
 | .cond _ a b=>match yj k a with
  |some x=>some x
  |none=>yj k b
 | .block _ b=>yj k b
 | .loop b=>yj k b
 |_=>none
def afR(fd:Func)(k:Nat):Array Oper:=match fd.body.bind (yj k)with
 |some (ops,_)=>ops
 |none=>#[]
section
variable{P:Program}{o:Oper}{a:Act}{w:World}
theorem Gf{x:Operand}(an:o.op=.move x):(execOp a.eval o).run P w=.ok (.value (a.eval x)) w:=by simp only[execOp,an,Sem.run_pure]
theorem K9{t e l:Nat}{x ix:Operand}{q:IntKind}{m:Nat}{g:Nat}(an:o.op=.indexAddr t x ix)(U:a.eval x=.pointer (some ⟨g,0,none⟩))(hi:a.eval ix=.int q (m:Int))(al:P.underlying t=some (.array l e)){i:TypeInfo}(he:P.info? e=some i)(ae:aY P e=1)(hm:m<l):
  (execOp a.eval o).run P w=.ok (.value (.pointer (some ⟨g,m,none⟩))) w:=by
 have:=P_ (P:=P) al he (g:=g) (b:=0) (k:=q) (m:=(m:Int)) (by omega) (by omega) w;rw[ae]at this;simp only[Nat.zero_add,Int.toNat_natCast,Nat.mul_one]at this;simp only[execOp,an,U,hi,Sem.run_bind,this,Result.andThen_ok,Sem.run_pure]
theorem Ki{t:Nat}{x:Operand}(an:o.op=.load t x){tM:TypeDesc}(hu:P.underlying t=some tM)(aC:h0 P t=false)(ae:aY P t=1){g c:Nat}(U:a.eval x=.pointer (some ⟨g,c,none⟩)){cs:Array Value}{el:Nat}{fr:Nat×Nat}{v:Value}(aU:w.heap[g]?=some (.cells cs el fr))(ad:cs[c]?=some v):
  (execOp a.eval o).run P w=.ok (.value v) w:=by
 simp only[execOp,an,U,Sem.run_bind,Yz hu aC ae aU ad,Result.andThen_ok,Sem.run_pure]
theorem ab9{t ty:Nat}{x y:Operand}(an:o.op=.binOp .add t x y ty){s1 s2:ByteArray}(U:a.eval x=.string s1)(aw:a.eval y=.string s2)(fO:s1.size+s2.size<=9223372036854775807):(execOp a.eval o).run P w=.ok (.value (.string (s1++s2))) w:=by
 have h:=TL (P:=P) (t:=t) (show qu .add (.string s1) (.string s2)=some (.string (s1++s2)) by unfold qu;simp only[if_pos fO]) w;have e:(eqGuard .add t x y (.string s1) (.string s2)).run P w=.ok () w:=by simp[eqGuard]
 simp only[execOp,an,U,aw,Sem.run_bind,e,h,Result.andThen_ok,Sem.run_pure]
theorem rf{S:World->Prop}{ops:Array Oper}{v:Value}(ak:o.guard=none)(h:∀w,S w->(execOp a.eval o).run P w=.ok (.value v) w):YieldsIf P ops S o v a:=
 .inl ⟨by unfold Region.wanted;rw[ak],h⟩
theorem ab8{d:Nat}{v:Value}(ah:d<a.tmps.size)(s:Nat):(a.put (some d) v).eval (.tmp s)=if s=d then v else a.eval (.tmp s):=by
 simp only[Act.eval,Act.put,aQ,aA];by_cases h:s=d
 .subst h;simp[ah]
 .rw [if_neg (Ne.symm h),if_neg h]
theorem TF{d:Option Nat}{v:Value}:(a.put d v).tmps.size=a.tmps.size:=by
 cases d<;>simp[Act.put]
def x4(k:Nat)(a cp:Act):Prop:=cp.tmps.size=a.tmps.size/\cp.defers=a.defers/\∀s,s<k->cp.tmps[s]?=a.tmps[s]?
theorem x4.refl(k:Nat)(a:Act):x4 k a a:=⟨rfl,rfl,λ_ _=>rfl⟩
theorem x4.put{k:Nat}{a cp:Act}(h:x4 k a cp){d:Nat}(ah:k<=d)(v:Value):x4 k a (cp.put (some d) v):=by
 refine⟨TF.trans h.1,h.2.1,λs ae=>?_⟩;rw[<-h.2.2 s ae];simp only[Act.put,aA];rw[if_neg (by omega)]
theorem adi{s:Nat}{v:Value}(h:a.tmps[s]?=some v):a.eval (.tmp s)=v:=by
 simp[Act.eval,aQ,h]
theorem KX{ops:Array Oper}{Q:Exit->Act->World->Prop}{i:Nat}(hi:ops[i]?=some o)(ak:o.guard=none)(ah:o.dst=none){t:Nat}{m k v:Operand}(an:o.op=.mapUpdate t m k v){w':World}(h:(Instr.mapUpdate t (a.eval m) (a.eval k) (a.eval v)).run P w=.ok () w'){K:Act->World->Prop}(dA:K a w'):wpOp P ops Q i K a w:=by
 unfold wpOp;simp only[hi];have hw:Region.wanted o (yielded ops a.tmps)=true:=by unfold Region.wanted;rw[ak]
 rw[hw];simp only[if_true];refine .inl (CI (w':=w') (by simp only[execOp,an,Sem.run_bind,h,Result.andThen_ok,Sem.run_pure]) ?_);rw[ah];exact dA
end
def lG(r:Nat)(o:Obj)(X:List (Nat×Obj)):List (Nat×Obj):=X.map λb=>if b.1=r then(r,o)else b
theorem KQ{r:Nat}{o:Obj}{X:List (Nat×Obj)}:(lG r o X).map a6=X.map a6:=by
 unfold lG;rw[List.map_map];refine List.map_congr_left λb _=>?_;simp only[Function.comp]
 split
 .rename_i h;exact h.symm
 .rfl
section
variable{n:Nat}{R:Nat->Value}{M:Mem}{B:List Nat}{w0:World}{a:Act}{w:World}{F:Fr}{X:List (Nat×Obj)}
theorem eP.lG(h:eP n R M B w0 F X a w){r:Nat}(hr:r∈X.map a6)(o':Obj):eP n R M B w0 F (lG r o' X) a { w with heap:=w.heap.setIfInBounds r o' }:=by
 obtain⟨b1,bQ,i1,aT,gL⟩:=h;obtain⟨km,w_,rfl⟩:=aM.1 hr;obtain⟨b9,k2,gY,nn⟩:=gL km w_;have bU:km.1<w.heap.size:=(Array.getElem?_eq_some_iff.1 b9).1;have other:∀k,k≠km.1->(w.heap.setIfInBounds km.1 o')[k]?=w.heap[k]?:=λk aj=>by rw[aA,if_neg (Ne.symm aj)]
 refine⟨b1,bQ,i1.world (Mem.le_refl b1) ⟨i1.bd.nodup,λx U=>?_,i1.bd.apart⟩ (i1.mem.setObj k2 o'),?_,?_⟩
 .show (w.heap.setIfInBounds km.1 o')[x.1]?=_;rw[other x.1 ?_]
  .exact i1.bd.heap x U
  .intro he;exact gY (aM.2 ⟨x,by simpa using U,he⟩)
 .refine { aT with size:=?_,out:=λg ak cg=>?_ }
  .show w0.heap.size<=(w.heap.setIfInBounds km.1 o').size;rw[Array.size_setIfInBounds];exact aT.size
  .show (w.heap.setIfInBounds km.1 o')[g]?=_;rw[other g (by omega)];exact aT.out g ak cg
 .intro b ag;obtain⟨cb,kY,rfl⟩:=aM.1 ag;obtain⟨c5,eo,h9,n2⟩:=gL cb kY;by_cases h:cb.1=km.1
  .rw [if_pos h];refine⟨?_,k2,gY,nn⟩;show(w.heap.setIfInBounds km.1 o')[km.1]?=_;rw[aA,if_pos rfl,if_pos bU]
  .rw [if_neg h];exact⟨(other cb.1 h).trans c5,eo,h9,n2⟩
theorem eP.sub(h:eP n R M B w0 F X a w){X':List (Nat×Obj)}(ae:∀b∈X',b∈X):eP n R M B w0 F X' a w:=by
 obtain⟨b1,bQ,i1,aT,gL⟩:=h;exact⟨b1,bQ,i1,aT,λb ag=>gL b (ae b ag)⟩
end
def kC(l:List Nat):Array Bool:=l.foldl (λA i=>A.setIfInBounds i true) (Array.replicate 14 false)
def ph(ops:Array Oper)(l:List Nat)(i:Nat):Bool:=Region.free .any ops (kC l) i&&(Region.ready .any ops (kC l)).contains i
theorem jX{ops:Array Oper}{l:List Nat}{i:Nat}(h:ph ops l i=true):Region.free .any ops (kC l) i=true/\(Region.ready .any ops (kC l)).contains i=true:=by
 unfold ph at h;rw[Bool.and_eq_true]at h;exact h
def Ap(ops:Array Oper)(l r:List Nat):Bool:=Region.ready .any ops (kC l)==r
theorem Gl{ops:Array Oper}{l r:List Nat}(h:Ap ops l r=true):Region.ready .any ops (kC l)=r:=by
 unfold Ap at h;exact eq_of_beq h
structure AB(n d:Nat)(a0 a:Act)(l:List (Nat×Value)):Prop where
 alike:x4 d a0 a
 size:a.tmps.size=n
 ev:∀x∈l,a.eval (.tmp x.1)=x.2
theorem AB.step{n d:Nat}{a0 a:Act}{l:List (Nat×Value)}(h:AB n d a0 a l)(t:Nat)(v:Value)(ah:d<=t)(ao:t<n)(hl:∀x∈l,x.1≠t):AB n d a0 (a.put (some t) v) ((t,v)::l):=by
 refine⟨h.alike.put ah v,TF.trans h.size,λx U=>?_⟩;have al:t<a.tmps.size:=by rw[h.size];exact ao
 rw[ab8 al];rcases List.mem_cons.1 U with rfl|U
 .rw [if_pos rfl]
 .rw [if_neg (hl x U)];exact h.ev x U
theorem AB.low{n d:Nat}{a0 a:Act}{l:List (Nat×Value)}(h:AB n d a0 a l){s:Nat}(ae:s<d){v:Value}(aO:a0.eval (.tmp s)=v):a.eval (.tmp s)=v:=by
 rw[<-aO];simp only[Act.eval,aQ,h.alike.2.2 s ae]
structure Hw(P:Program)(ops:Array Oper)(Cf p1 PR kt e:Nat)(s a b d:Nat):Prop where
 size:ops.size=14
 qX:Region.noSelect ops=true
 ut:P.underlying p1=some (.map kt e)
 Jp:P.underlying kt=some .string
 one:h0 P p1=false/\aY P p1=1
 arr:P.underlying Cf=some (.array 3 p1)
 inf:∃i,P.info? p1=some i
 sc:∃o,ops[0]?=some o/\o.guard=none/\o.dst=some d/\∃q,o.op=.indexAddr Cf (.tmp s) (.const (.int q 0))
 sd:∃o,ops[1]?=some o/\o.guard=none/\o.dst=some (d+1)/\o.op=.load p1 (.tmp d)
 Pb:∃o,ops[2]?=some o/\o.guard=none/\o.dst=some (d+2)/\o.op=.move (.tmp a)
 Pc:∃o,ops[3]?=some o/\o.guard=none/\o.dst=some (d+3)/\∃q,o.op=.indexAddr Cf (.tmp s) (.const (.int q 1))
 Pd:∃o,ops[4]?=some o/\o.guard=none/\o.dst=some (d+4)/\o.op=.load p1 (.tmp (d+3))
 Pe:∃o,ops[5]?=some o/\o.guard=none/\o.dst=some (d+5)/\o.op=.move (.tmp b)
 Pf:∃o,ops[6]?=some o/\o.guard=none/\o.dst=some (d+6)/\∃q,o.op=.indexAddr Cf (.tmp s) (.const (.int q 2))
 Pg:∃o,ops[7]?=some o/\o.guard=none/\o.dst=some (d+7)/\o.op=.load p1 (.tmp (d+6))
 Ph:∃o,ops[8]?=some o/\o.guard=none/\o.dst=some (d+8)/\o.op=.move (.tmp a)
 Pj:∃o,ops[9]?=some o/\o.guard=none/\o.dst=some (d+9)/\o.op=.move (.tmp b)
 O7:∃o,ops[10]?=some o/\o.guard=none/\o.dst=some (d+10)/\∃ty,o.op=.binOp .add PR (.tmp (d+8)) (.tmp (d+9)) ty
 O8:∃o,ops[11]?=some o/\o.guard=none/\o.dst=none/\o.op=.mapUpdate p1 (.tmp (d+1)) (.tmp (d+2)) (.const (.bool true))
 O9:∃o,ops[12]?=some o/\o.guard=none/\o.dst=none/\o.op=.mapUpdate p1 (.tmp (d+4)) (.tmp (d+5)) (.const (.bool true))
 O_:∃o,ops[13]?=some o/\o.guard=none/\o.dst=none/\o.op=.mapUpdate p1 (.tmp (d+7)) (.tmp (d+10)) (.const (.bool true))
 f0:ph ops [] 0=true
 f1:ph ops [0] 1=true
 f2:ph ops [0,1] 2=true
 f3:ph ops [0,1,2] 3=true
 f4:ph ops [0,1,2,3] 4=true
 f5:ph ops [0,1,2,3,4] 5=true
 f6:ph ops [0,1,2,3,4,5] 6=true
 f7:ph ops [0,1,2,3,4,5,6] 7=true
 f8:ph ops [0,1,2,3,4,5,6,7] 8=true
 f9:ph ops [0,1,2,3,4,5,6,7,8] 9=true
 f10:ph ops [0,1,2,3,4,5,6,7,8,9] 10=true
 o1:Ap ops [0,1,2,3,4,5,6,7,8,9,10] [11]=true
 vE:Ap ops [0,1,2,3,4,5,6,7,8,9,10,11] [12]=true
 tF:Ap ops [0,1,2,3,4,5,6,7,8,9,10,11,12] [13]=true
 B_:Ap ops [0,1,2,3,4,5,6,7,8,9,10,11,12,13] []=true
section
variable{E:Env}{n id:Nat}{ops:Array Oper}{Cf p1 PR kt e s a b d:Nat}{F:Fr}{X:List (Nat×Obj)}{Q:dU->Fr->List (Nat×Obj)->Prop}{r1 r2 bx:Nat}{b9 k2 gY:List ByteArray}{s2 d_:ByteArray}
theorem Hw.run(u:Hw E.P ops Cf p1 PR kt e s a b d)(hm:E.P.follows .mixedOrders=true)(ao:s<d/\a<d/\b<d/\d+10<n)(e2:∀x∈F.map a6,x<d)(ae:get F s=.box ([Value.map (some r1),.map (some r2),.map (some bx)].map D.lit))(aC:get F a=.lit (.string s2))(ag:get F b=.lit (.string d_))
  (pL:(r1,dX b9)∈X) (mG:(r2,dX k2)∈X) (pM:(bx,dX gY)∈X) (lY:r1≠r2) (jv:r1≠bx) (AU:r2≠bx) (Nx:s2.size+d_.size<=9223372036854775807)
  (k:Q .normal F (lG bx (dX (gw (s2++d_) gY)) (lG r2 (dX (gw d_ k2)) (lG r1 (dX (gw s2 b9)) X)))):ca E n (.region id ops true) F X Q:=by
 intro R M B w0 a0 w ei hf ak af cl;refine wp_mono (Q:=λe a w=>e=.normal/\ei .normal a w) ?_ (λe a w h=>by obtain⟨rfl,h⟩:=h;exact h);obtain⟨g,el,fr,cb,cK,cS⟩:=af.box (by omega) ae;have fO:a0.tmps.size=n:=by obtain⟨b1,bQ,i1,_⟩:=af;exact i1.size
 have ll:a0.eval (.tmp a)=.string s2:=af.lit (E:=E) (λt al=>by have h:=Operand.tmp.inj al;exact h ▸ (show a<n by omega)) (x:=.tmp a) (by simp only[aZ,aC,view,iY]);have uT:a0.eval (.tmp b)=.string d_:=af.lit (E:=E) (λt al=>by have h:=Operand.tmp.inj al;exact h ▸ (show b<n by omega)) (x:=.tmp b) (by simp only[aZ,ag,view,iY]);have es:a0.eval (.tmp s)=.pointer (some ⟨g,0,none⟩):=adi cb;refine wp_region_held (S:=λw=>w.heap[g]?=some (.cells [Value.map (some r1),.map (some r2),.map (some bx)].toArray el fr)) hm ?_;have Ew:eP n R M B w0 F X a0 { w with drawn:=w.drawn+1 }:=af.drawn rfl rfl rfl rfl;have cR:({ w with drawn:=w.drawn+1 }:World).heap[g]?=some (.cells [Value.map (some r1),.map (some r2),.map (some bx)].toArray el fr):=cK;generalize({ w with drawn:=w.drawn+1 }:World)=w1 at Ew cR;rw[u.size];obtain⟨inf,h_⟩:=u.inf;have fT:∀(c:List PanicEntry)(a:Act)(w:World)(v:Value)(hj:Option Tmp),(Exit.panic c=Exit.normal/\ei .normal (a.put hj v) w)->(Exit.panic c=Exit.normal/\ei .normal a w):=λc a w v hj h=>by cases h.1
 have z:AB n d a0 a0 []:=⟨x4.refl _ _,fO,λx U=>by cases U⟩
 show wpAnyH E.P .any ops _ _ 14 (kC []) a0 w1;obtain⟨sc,i0,yG,d0,Xh,gn⟩:=u.sc;refine wpAnyH_take (i:=0) (fuel:=13) (v:=.pointer (some ⟨g,0,none⟩)) i0 u.qX (jX u.f0).1 (jX u.f0).2 (λc a w=>fT c a w _ _) (rf yG λw cR=>K9 (m:=0) gn (z.low ao.1 es) rfl u.arr h_ u.one.2 (by decide)) cR ?_;rw[d0]
 replace z:=z.step (d) (.pointer (some ⟨g,0,none⟩)) (by omega) (by omega) (by simp)
 generalize Act.put _ (some (d)) _=a2 at z⊢;show wpAnyH E.P .any ops _ _ 13 (kC [0]) a2 _;obtain⟨sd,i1,c5,d1,aT⟩:=u.sd;refine wpAnyH_take (i:=1) (fuel:=12) (v:=.map (some r1)) i1 u.qX (jX u.f1).1 (jX u.f1).2 (λc a w=>fT c a w _ _) (rf c5 λw cR=>Ki aT u.ut u.one.1 u.one.2 (z.ev (d,.pointer (some ⟨g,0,none⟩)) (by simp)) cR rfl) cR ?_;rw[d1]
 replace z:=z.step (d+1) (.map (some r1)) (by omega) (by omega) (by simp)
 generalize Act.put _ (some (d+1)) _=bA at z⊢;show wpAnyH E.P .any ops _ _ 12 (kC [0,1]) bA _;obtain⟨Pb,i2,eo,d2,a5⟩:=u.Pb;refine wpAnyH_take (i:=2) (fuel:=11) (v:=.string s2) i2 u.qX (jX u.f2).1 (jX u.f2).2 (λc a w=>fT c a w _ _) (rf eo λw cR=>by rw[Gf a5,z.low (by omega) ll]) cR ?_;rw[d2]
 replace z:=z.step (d+2) (.string s2) (by omega) (by omega) (by simp)
 generalize Act.put _ (some (d+2)) _=a3 at z⊢;show wpAnyH E.P .any ops _ _ 11 (kC [0,1,2]) a3 _;obtain⟨Pc,i3,h9,d3,fI,ez⟩:=u.Pc;refine wpAnyH_take (i:=3) (fuel:=10) (v:=.pointer (some ⟨g,1,none⟩)) i3 u.qX (jX u.f3).1 (jX u.f3).2 (λc a w=>fT c a w _ _) (rf h9 λw cR=>K9 (m:=1) ez (z.low ao.1 es) rfl u.arr h_ u.one.2 (by decide)) cR ?_;rw[d3]
 replace z:=z.step (d+3) (.pointer (some ⟨g,1,none⟩)) (by omega) (by omega) (by simp)
 generalize Act.put _ (some (d+3)) _=a4 at z⊢;show wpAnyH E.P .any ops _ _ 10 (kC [0,1,2,3]) a4 _;obtain⟨Pd,i4,n2,d4,eK⟩:=u.Pd;refine wpAnyH_take (i:=4) (fuel:=9) (v:=.map (some r2)) i4 u.qX (jX u.f4).1 (jX u.f4).2 (λc a w=>fT c a w _ _) (rf n2 λw cR=>Ki eK u.ut u.one.1 u.one.2 (z.ev (d+3,.pointer (some ⟨g,1,none⟩)) (by simp)) cR rfl) cR ?_;rw[d4]
 replace z:=z.step (d+4) (.map (some r2)) (by omega) (by omega) (by simp)
 generalize Act.put _ (some (d+4)) _=cj at z⊢;show wpAnyH E.P .any ops _ _ 9 (kC [0,1,2,3,4]) cj _;obtain⟨Pe,i5,HY,d5,jk⟩:=u.Pe;refine wpAnyH_take (i:=5) (fuel:=8) (v:=.string d_) i5 u.qX (jX u.f5).1 (jX u.f5).2 (λc a w=>fT c a w _ _) (rf HY λw cR=>by rw[Gf jk,z.low (by omega) uT]) cR ?_;rw[d5]
 replace z:=z.step (d+5) (.string d_) (by omega) (by omega) (by simp)
 generalize Act.put _ (some (d+5)) _=eQ at z⊢;show wpAnyH E.P .any ops _ _ 8 (kC [0,1,2,3,4,5]) eQ _;obtain⟨Pf,i6,ahF,d6,zr,AN⟩:=u.Pf;refine wpAnyH_take (i:=6) (fuel:=7) (v:=.pointer (some ⟨g,2,none⟩)) i6 u.qX (jX u.f6).1 (jX u.f6).2 (λc a w=>fT c a w _ _) (rf ahF λw cR=>K9 (m:=2) AN (z.low ao.1 es) rfl u.arr h_ u.one.2 (by decide)) cR ?_;rw[d6]
 replace z:=z.step (d+6) (.pointer (some ⟨g,2,none⟩)) (by omega) (by omega) (by simp)
 generalize Act.put _ (some (d+6)) _=cX at z⊢;show wpAnyH E.P .any ops _ _ 7 (kC [0,1,2,3,4,5,6]) cX _;obtain⟨Pg,i7,ahG,d7,DM⟩:=u.Pg;refine wpAnyH_take (i:=7) (fuel:=6) (v:=.map (some bx)) i7 u.qX (jX u.f7).1 (jX u.f7).2 (λc a w=>fT c a w _ _) (rf ahG λw cR=>Ki DM u.ut u.one.1 u.one.2 (z.ev (d+6,.pointer (some ⟨g,2,none⟩)) (by simp)) cR rfl) cR ?_;rw[d7]
 replace z:=z.step (d+7) (.map (some bx)) (by omega) (by omega) (by simp)
 generalize Act.put _ (some (d+7)) _=hh at z⊢;show wpAnyH E.P .any ops _ _ 6 (kC [0,1,2,3,4,5,6,7]) hh _;obtain⟨Ph,i8,ahH,d8,s3⟩:=u.Ph;refine wpAnyH_take (i:=8) (fuel:=5) (v:=.string s2) i8 u.qX (jX u.f8).1 (jX u.f8).2 (λc a w=>fT c a w _ _) (rf ahH λw cR=>by rw[Gf s3,z.low (by omega) ll]) cR ?_;rw[d8]
 replace z:=z.step (d+8) (.string s2) (by omega) (by omega) (by simp)
 generalize Act.put _ (some (d+8)) _=a9 at z⊢;show wpAnyH E.P .any ops _ _ 5 (kC [0,1,2,3,4,5,6,7,8]) a9 _;obtain⟨Pj,i9,ahI,d9,ag6⟩:=u.Pj;refine wpAnyH_take (i:=9) (fuel:=4) (v:=.string d_) i9 u.qX (jX u.f9).1 (jX u.f9).2 (λc a w=>fT c a w _ _) (rf ahI λw cR=>by rw[Gf ag6,z.low (by omega) uT]) cR ?_;rw[d9]
 replace z:=z.step (d+9) (.string d_) (by omega) (by omega) (by simp)
 generalize Act.put _ (some (d+9)) _=j2 at z⊢;show wpAnyH E.P .any ops _ _ 4 (kC [0,1,2,3,4,5,6,7,8,9]) j2 _;obtain⟨O7,i10,ahA,d10,amH,ag1⟩:=u.O7;refine wpAnyH_take (i:=10) (fuel:=3) (v:=.string (s2++d_)) i10 u.qX (jX u.f10).1 (jX u.f10).2 (λc a w=>fT c a w _ _) (rf ahA λw cR=>ab9 ag1 (z.ev (d+8,.string s2) (by simp)) (z.ev (d+9,.string d_) (by simp)) Nx) cR ?_;rw[d10]
 replace z:=z.step (d+10) (.string (s2++d_)) (by omega) (by omega) (by simp)
 generalize Act.put _ (some (d+10)) _=eY at z⊢;show wpAnyH E.P .any ops _ _ 3 (kC [0,1,2,3,4,5,6,7,8,9,10]) eY _;obtain⟨O8,i11,ahB,d11,ag2⟩:=u.O8;refine wpAnyH_all (Gl u.o1) (by simp) λi hi=>?_;obtain rfl:i=11:=by simpa using hi
 have ajj:w1.heap[r1]?=some (dX b9):=Ew.heap (b:=(r1,dX b9)) (by exact pL);refine KX i11 ahB d11 ag2 (w':={ w1 with heap:=w1.heap.setIfInBounds r1 (dX (gw s2 b9)) }) ?_ ⟨?_,?_⟩
 .have b_:=z.ev (d+1,.map (some r1)) (by simp);have cM:=z.ev (d+2,.string s2) (by simp);simp only at b_ cM;rw[b_,cM];exact JJ u.ut u.Jp ajj s2
 .show (w1.heap.setIfInBounds r1 _)[g]?=_;rw[aA,if_neg (cS (r1,dX b9) pL)];exact cR
 have cR:({ w1 with heap:=w1.heap.setIfInBounds r1 (dX (gw s2 b9)) }:World).heap[g]?=some (.cells [Value.map (some r1),.map (some r2),.map (some bx)].toArray el fr):=by
  show(w1.heap.setIfInBounds r1 _)[g]?=_;rw[aA,if_neg (cS (r1,dX b9) pL)];exact cR
 have ve:=Ew.lG (r:=r1) (aM.2 ⟨_,pL,rfl⟩) (dX (gw s2 b9));generalize({ w1 with heap:=w1.heap.setIfInBounds r1 (dX (gw s2 b9)) }:World)=w2 at cR ve⊢;show wpAnyH E.P .any ops _ _ 2 (kC [0,1,2,3,4,5,6,7,8,9,10,11]) eY w2;obtain⟨O9,i12,Vr,d12,ag3⟩:=u.O9;refine wpAnyH_all (Gl u.vE) (by simp) λi hi=>?_;obtain rfl:i=12:=by simpa using hi
 have ajk:w2.heap[r2]?=some (dX k2):=ve.heap (b:=(r2,dX k2)) (by exact aM.2 ⟨_,mG,if_neg (Ne.symm lY)⟩);refine KX i12 Vr d12 ag3 (w':={ w2 with heap:=w2.heap.setIfInBounds r2 (dX (gw d_ k2)) }) ?_ ⟨?_,?_⟩
 .have b_:=z.ev (d+4,.map (some r2)) (by simp);have cM:=z.ev (d+5,.string d_) (by simp);simp only at b_ cM;rw[b_,cM];exact JJ u.ut u.Jp ajk d_
 .show (w2.heap.setIfInBounds r2 _)[g]?=_;rw[aA,if_neg (cS (r2,dX k2) mG)];exact cR
 have cR:({ w2 with heap:=w2.heap.setIfInBounds r2 (dX (gw d_ k2)) }:World).heap[g]?=some (.cells [Value.map (some r1),.map (some r2),.map (some bx)].toArray el fr):=by
  show(w2.heap.setIfInBounds r2 _)[g]?=_;rw[aA,if_neg (cS (r2,dX k2) mG)];exact cR
 have mF:=ve.lG (r:=r2) (by rw[KQ];exact aM.2 ⟨_,mG,rfl⟩) (dX (gw d_ k2));generalize({ w2 with heap:=w2.heap.setIfInBounds r2 (dX (gw d_ k2)) }:World)=hp at cR mF⊢;show wpAnyH E.P .any ops _ _ 1 (kC [0,1,2,3,4,5,6,7,8,9,10,11,12]) eY hp;obtain⟨O_,i13,ahC,d13,ag4⟩:=u.O_;refine wpAnyH_all (Gl u.tF) (by simp) λi hi=>?_;obtain rfl:i=13:=by simpa using hi
 have ajl:hp.heap[bx]?=some (dX gY):=mF.heap (b:=(bx,dX gY)) (by exact aM.2 ⟨_,aM.2 ⟨_,pM,if_neg (Ne.symm jv)⟩,if_neg (Ne.symm AU)⟩);refine KX i13 ahC d13 ag4 (w':={ hp with heap:=hp.heap.setIfInBounds bx (dX (gw (s2++d_) gY)) }) ?_ ⟨?_,?_⟩
 .have b_:=z.ev (d+7,.map (some bx)) (by simp);have cM:=z.ev (d+10,.string (s2++d_)) (by simp);simp only at b_ cM;rw[b_,cM];exact JJ u.ut u.Jp ajl (s2++d_)
 .show (hp.heap.setIfInBounds bx _)[g]?=_;rw[aA,if_neg (cS (bx,dX gY) pM)];exact cR
 have cR:({ hp with heap:=hp.heap.setIfInBounds bx (dX (gw (s2++d_) gY)) }:World).heap[g]?=some (.cells [Value.map (some r1),.map (some r2),.map (some bx)].toArray el fr):=by
  show(hp.heap.setIfInBounds bx _)[g]?=_;rw[aA,if_neg (cS (bx,dX gY) pM)];exact cR
 have Bg:=mF.lG (r:=bx) (by rw[KQ,KQ];exact aM.2 ⟨_,pM,rfl⟩) (dX (gw (s2++d_) gY));generalize({ hp with heap:=hp.heap.setIfInBounds bx (dX (gw (s2++d_) gY)) }:World)=oh at cR Bg⊢;show wpAnyH E.P .any ops _ _ 0 (kC [0,1,2,3,4,5,6,7,8,9,10,11,12,13]) eY oh;refine wpAnyH_done (Gl u.B_) ⟨rfl,?_⟩ _;exact cl .normal F _ eY oh k (Bg.act (z.alike.1) z.alike.2.1 λs ae=>z.alike.2.2 s (e2 s ae))
end
end Go.aS
