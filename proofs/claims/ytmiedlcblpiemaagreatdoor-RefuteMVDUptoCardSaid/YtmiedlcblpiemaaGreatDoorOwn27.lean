/- An interpreter of function bodies, sound. No conditions. -/
import Derived.OrdersHeld
import Derived.Test.YtmiedlcblpiemaaGreatDoorOwn25
set_option linter.all false
open Array renaming getElem?_setIfInBounds->zA,getD_eq_getD_getElem?->zC
open List renaming mem_map->zB
open Prod renaming fst->zD
namespace Go.Own
open D
def Ao2(k:Nat):Code->Option (Array Oper×Bool)
 | .region id ops d=>if Nat.beq id k then some (ops,d)else none
 | .seq a b=>match Ao2 k a with
  |some x=>some x
  |none=>Ao2 k b
 | .cond _ a b=>match Ao2 k a with
  |some x=>some x
  |none=>Ao2 k b
 | .block _ b=>Ao2 k b
 | .loop b=>Ao2 k b
 |_=>none
def Bod(fd:Func)(k:Nat):Array Oper:=match fd.body.bind (Ao2 k)with
 |some (ops,_)=>ops
 |none=>#[]
section
variable{P:Program}{o:Oper}{a:Act}{w:World}
theorem Am0{x:Operand}(ho:o.op=.move x):(execOp a.eval o).run P w=.ok (.value (a.eval x)) w:=by simp only[execOp,ho,Sem.run_pure]
theorem Asl{t e l:Nat}{x ix:Operand}{q:IntKind}{m:Nat}{g:Nat}(ho:o.op=.indexAddr t x ix)(hx:a.eval x=.pointer (some ⟨g,0,none⟩))(hi:a.eval ix=.int q (m:Int))(ht:P.underlying t=some (.array l e)){i:TypeInfo}(he:P.info? e=some i)(hs:sizeT P e=1)(hm:m<l):
  (execOp a.eval o).run P w=.ok (.value (.pointer (some ⟨g,m,none⟩))) w:=by
 have:=Ak4 (P:=P) ht he (g:=g) (b:=0) (k:=q) (m:=(m:Int)) (by omega) (by omega) w;rw[hs]at this;simp only[Nat.zero_add,Int.toNat_natCast,Nat.mul_one]at this;simp only[execOp,ho,hx,hi,Sem.run_bind,this,Result.andThen_ok,Sem.run_pure]
theorem Ao0{t:Nat}{x:Operand}(ho:o.op=.load t x){td:TypeDesc}(hu:P.underlying t=some td)(ha:isAggT P t=false)(hs:sizeT P t=1){g c:Nat}(hx:a.eval x=.pointer (some ⟨g,c,none⟩)){cs:Array Value}{el:Nat}{fr:Nat×Nat}{v:Value}(hh:w.heap[g]?=some (.cells cs el fr))(hc:cs[c]?=some v):
  (execOp a.eval o).run P w=.ok (.value v) w:=by
 simp only[execOp,ho,hx,Sem.run_bind,Aw3 hu ha hs hh hc,Result.andThen_ok,Sem.run_pure]
theorem Bhp{t ty:Nat}{x y:Operand}(ho:o.op=.binOp .add t x y ty){s1 s2:ByteArray}(hx:a.eval x=.string s1)(hy:a.eval y=.string s2)(hsz:s1.size+s2.size<=9223372036854775807):(execOp a.eval o).run P w=.ok (.value (.string (s1++s2))) w:=by
 have h:=Bc9 (P:=P) (t:=t) (show binV .add (.string s1) (.string s2)=some (.string (s1++s2)) by unfold binV;simp only[if_pos hsz]) w;have e:(eqGuard .add t x y (.string s1) (.string s2)).run P w=.ok () w:=by simp[eqGuard]
 simp only[execOp,ho,hx,hy,Sem.run_bind,e,h,Result.andThen_ok,Sem.run_pure]
theorem Adr{S:World->Prop}{ops:Array Oper}{v:Value}(hg:o.guard=none)(h:∀w,S w->(execOp a.eval o).run P w=.ok (.value v) w):YieldsIf P ops S o v a:=
 .inl ⟨by unfold Region.wanted;rw[hg],h⟩
theorem Bho{d:Nat}{v:Value}(hd:d<a.tmps.size)(s:Nat):(a.put (some d) v).eval (.tmp s)=if s=d then v else a.eval (.tmp s):=by
 simp only[Act.eval,Act.put,zC,zA];by_cases h:s=d
 .subst h;simp[hd]
 .rw [if_neg (Ne.symm h),if_neg h]
theorem Bav{d:Option Nat}{v:Value}:(a.put d v).tmps.size=a.tmps.size:=by
 cases d<;>simp[Act.put]
def Ais(k:Nat)(a a':Act):Prop:=a'.tmps.size=a.tmps.size/\a'.defers=a.defers/\∀s,s<k->a'.tmps[s]?=a.tmps[s]?
theorem Ais.refl(k:Nat)(a:Act):Ais k a a:=⟨rfl,rfl,fun _ _=>rfl⟩
theorem Ais.put{k:Nat}{a a':Act}(h:Ais k a a'){d:Nat}(hd:k<=d)(v:Value):Ais k a (a'.put (some d) v):=by
 refine⟨Bav.trans h.1,h.2.1,fun s hs=>?_⟩;rw[<-h.2.2 s hs];simp only[Act.put,zA];rw[if_neg (by omega)]
theorem Bjr{s:Nat}{v:Value}(h:a.tmps[s]?=some v):a.eval (.tmp s)=v:=by
 simp[Act.eval,zC,h]
theorem Aqt{ops:Array Oper}{Q:Exit->Act->World->Prop}{i:Nat}(hi:ops[i]?=some o)(hg:o.guard=none)(hd:o.dst=none){t:Nat}{m k v:Operand}(ho:o.op=.mapUpdate t m k v){w':World}(h:(Instr.mapUpdate t (a.eval m) (a.eval k) (a.eval v)).run P w=.ok () w'){K:Act->World->Prop}(hK:K a w'):wpOp P ops Q i K a w:=by
 unfold wpOp;simp only[hi];have hw:Region.wanted o (yielded ops a.tmps)=true:=by unfold Region.wanted;rw[hg]
 rw[hw];simp only[if_true];refine .inl (Aiq (w':=w') (by simp only[execOp,ho,Sem.run_bind,h,Result.andThen_ok,Sem.run_pure]) ?_);rw[hd];exact hK
end
def setX(r:Nat)(o:Obj)(X:List (Nat×Obj)):List (Nat×Obj):=X.map fun b=>if b.1=r then(r,o)else b
theorem Aqi{r:Nat}{o:Obj}{X:List (Nat×Obj)}:(setX r o X).map zD=X.map zD:=by
 unfold setX;rw[List.map_map];refine List.map_congr_left fun b _=>?_;simp only[Function.comp]
 split
 .rename_i h;exact h.symm
 .rfl
section
variable{n:Nat}{R:Nat->Value}{M:Mem}{B:List Nat}{w0:World}{a:Act}{w:World}{F:Fr}{X:List (Nat×Obj)}
theorem Aav.setX(h:Aav n R M B w0 F X a w){r:Nat}(hr:r∈X.map zD)(o':Obj):Aav n R M B w0 F (setX r o' X) a { w with heap:=w.heap.setIfInBounds r o' }:=by
 obtain⟨M1,G1,i1,e1,ox⟩:=h;obtain⟨b0,hb0,rfl⟩:=zB.1 hr;obtain⟨k1,k2,k3,k4⟩:=ox b0 hb0;have hlt:b0.1<w.heap.size:=(Array.getElem?_eq_some_iff.1 k1).1;have other:∀k,k≠b0.1->(w.heap.setIfInBounds b0.1 o')[k]?=w.heap[k]?:=fun k hk=>by rw[zA,if_neg (Ne.symm hk)]
 refine⟨M1,G1,i1.world (Mem.le_refl M1) ⟨i1.blk.nodup,fun x hx=>?_,i1.blk.apart⟩ (i1.mem.setObj k2 o'),?_,?_⟩
 .show (w.heap.setIfInBounds b0.1 o')[x.1]?=_;rw[other x.1 ?_]
  .exact i1.blk.heap x hx
  .intro he;exact k3 (zB.2 ⟨x,by simpa using hx,he⟩)
 .refine { e1 with size:=?_,out:=fun g hg hB=>?_ }
  .show w0.heap.size<=(w.heap.setIfInBounds b0.1 o').size;rw[Array.size_setIfInBounds];exact e1.size
  .show (w.heap.setIfInBounds b0.1 o')[g]?=_;rw[other g (by omega)];exact e1.out g hg hB
 .intro b hb;obtain⟨b1,hb1,rfl⟩:=zB.1 hb;obtain⟨g1,g2,g3,g4⟩:=ox b1 hb1;by_cases h:b1.1=b0.1
  .rw [if_pos h];refine⟨?_,k2,k3,k4⟩;show(w.heap.setIfInBounds b0.1 o')[b0.1]?=_;rw[zA,if_pos rfl,if_pos hlt]
  .rw [if_neg h];exact⟨(other b1.1 h).trans g1,g2,g3,g4⟩
theorem Aav.sub(h:Aav n R M B w0 F X a w){X':List (Nat×Obj)}(hs:∀b∈X',b∈X):Aav n R M B w0 F X' a w:=by
 obtain⟨M1,G1,i1,e1,ox⟩:=h;exact⟨M1,G1,i1,e1,fun b hb=>ox b (hs b hb)⟩
end
def lst(l:List Nat):Array Bool:=l.foldl (fun A i=>A.setIfInBounds i true) (Array.replicate 14 false)
def Ah0(ops:Array Oper)(l:List Nat)(i:Nat):Bool:=Region.free .any ops (lst l) i&&(Region.ready .any ops (lst l)).contains i
theorem Abh{ops:Array Oper}{l:List Nat}{i:Nat}(h:Ah0 ops l i=true):Region.free .any ops (lst l) i=true/\(Region.ready .any ops (lst l)).contains i=true:=by
 unfold Ah0 at h;rw[Bool.and_eq_true]at h;exact h
def Anc(ops:Array Oper)(l r:List Nat):Bool:=Region.ready .any ops (lst l)==r
theorem Amb{ops:Array Oper}{l r:List Nat}(h:Anc ops l r=true):Region.ready .any ops (lst l)=r:=by
 unfold Anc at h;exact eq_of_beq h
structure Rd(n d:Nat)(a0 a:Act)(l:List (Nat×Value)):Prop where
 alike:Ais d a0 a
 size:a.tmps.size=n
 ev:∀x∈l,a.eval (.tmp x.1)=x.2
theorem Rd.step{n d:Nat}{a0 a:Act}{l:List (Nat×Value)}(h:Rd n d a0 a l)(t:Nat)(v:Value)(hd:d<=t)(hn:t<n)(hl:∀x∈l,x.1≠t):Rd n d a0 (a.put (some t) v) ((t,v)::l):=by
 refine⟨h.alike.put hd v,Bav.trans h.size,fun x hx=>?_⟩;have ht:t<a.tmps.size:=by rw[h.size];exact hn
 rw[Bho ht];rcases List.mem_cons.1 hx with rfl|hx
 .rw [if_pos rfl]
 .rw [if_neg (hl x hx)];exact h.ev x hx
theorem Rd.low{n d:Nat}{a0 a:Act}{l:List (Nat×Value)}(h:Rd n d a0 a l){s:Nat}(hs:s<d){v:Value}(h0:a0.eval (.tmp s)=v):a.eval (.tmp s)=v:=by
 rw[<-h0];simp only[Act.eval,zC,h.alike.2.2 s hs]
structure Upd3(P:Program)(ops:Array Oper)(tA tM tS kt e:Nat)(s a b d:Nat):Prop where
 size:ops.size=14
 nosel:Region.noSelect ops=true
 ut:P.underlying tM=some (.map kt e)
 uk:P.underlying kt=some .string
 one:isAggT P tM=false/\sizeT P tM=1
 arr:P.underlying tA=some (.array 3 tM)
 inf:∃i,P.info? tM=some i
 o0:∃o,ops[0]?=some o/\o.guard=none/\o.dst=some d/\∃q,o.op=.indexAddr tA (.tmp s) (.const (.int q 0))
 o1:∃o,ops[1]?=some o/\o.guard=none/\o.dst=some (d+1)/\o.op=.load tM (.tmp d)
 o2:∃o,ops[2]?=some o/\o.guard=none/\o.dst=some (d+2)/\o.op=.move (.tmp a)
 o3:∃o,ops[3]?=some o/\o.guard=none/\o.dst=some (d+3)/\∃q,o.op=.indexAddr tA (.tmp s) (.const (.int q 1))
 o4:∃o,ops[4]?=some o/\o.guard=none/\o.dst=some (d+4)/\o.op=.load tM (.tmp (d+3))
 o5:∃o,ops[5]?=some o/\o.guard=none/\o.dst=some (d+5)/\o.op=.move (.tmp b)
 o6:∃o,ops[6]?=some o/\o.guard=none/\o.dst=some (d+6)/\∃q,o.op=.indexAddr tA (.tmp s) (.const (.int q 2))
 o7:∃o,ops[7]?=some o/\o.guard=none/\o.dst=some (d+7)/\o.op=.load tM (.tmp (d+6))
 o8:∃o,ops[8]?=some o/\o.guard=none/\o.dst=some (d+8)/\o.op=.move (.tmp a)
 o9:∃o,ops[9]?=some o/\o.guard=none/\o.dst=some (d+9)/\o.op=.move (.tmp b)
 o10:∃o,ops[10]?=some o/\o.guard=none/\o.dst=some (d+10)/\∃ty,o.op=.binOp .add tS (.tmp (d+8)) (.tmp (d+9)) ty
 o11:∃o,ops[11]?=some o/\o.guard=none/\o.dst=none/\o.op=.mapUpdate tM (.tmp (d+1)) (.tmp (d+2)) (.const (.bool true))
 o12:∃o,ops[12]?=some o/\o.guard=none/\o.dst=none/\o.op=.mapUpdate tM (.tmp (d+4)) (.tmp (d+5)) (.const (.bool true))
 o13:∃o,ops[13]?=some o/\o.guard=none/\o.dst=none/\o.op=.mapUpdate tM (.tmp (d+7)) (.tmp (d+10)) (.const (.bool true))
 f0:Ah0 ops [] 0=true
 f1:Ah0 ops [0] 1=true
 f2:Ah0 ops [0,1] 2=true
 f3:Ah0 ops [0,1,2] 3=true
 f4:Ah0 ops [0,1,2,3] 4=true
 f5:Ah0 ops [0,1,2,3,4] 5=true
 f6:Ah0 ops [0,1,2,3,4,5] 6=true
 f7:Ah0 ops [0,1,2,3,4,5,6] 7=true
 f8:Ah0 ops [0,1,2,3,4,5,6,7] 8=true
 f9:Ah0 ops [0,1,2,3,4,5,6,7,8] 9=true
 f10:Ah0 ops [0,1,2,3,4,5,6,7,8,9] 10=true
 r11:Anc ops [0,1,2,3,4,5,6,7,8,9,10] [11]=true
 r12:Anc ops [0,1,2,3,4,5,6,7,8,9,10,11] [12]=true
 r13:Anc ops [0,1,2,3,4,5,6,7,8,9,10,11,12] [13]=true
 r14:Anc ops [0,1,2,3,4,5,6,7,8,9,10,11,12,13] []=true
section
variable{E:Env}{n id:Nat}{ops:Array Oper}{tA tM tS kt e s a b d:Nat}{F:Fr}{X:List (Nat×Obj)}{Q:Ex->Fr->List (Nat×Obj)->Prop}{r1 r2 r3:Nat}{k1 k2 k3:List ByteArray}{s2 s3:ByteArray}
theorem Upd3.run(u:Upd3 E.P ops tA tM tS kt e s a b d)(hm:E.P.follows .mixedOrders=true)(hn:s<d/\a<d/\b<d/\d+10<n)(hF:∀x∈F.map zD,x<d)(hs:get F s=.box ([Value.map (some r1),.map (some r2),.map (some r3)].map D.lit))(ha:get F a=.lit (.string s2))(hb:get F b=.lit (.string s3))
  (hr1:(r1,sMap k1)∈X) (hr2:(r2,sMap k2)∈X) (hr3:(r3,sMap k3)∈X) (h12:r1≠r2) (h13:r1≠r3) (h23:r2≠r3) (hcat:s2.size+s3.size<=9223372036854775807)
  (k:Q .normal F (setX r3 (sMap (sIns (s2++s3) k3)) (setX r2 (sMap (sIns s3 k2)) (setX r1 (sMap (sIns s2 k1)) X)))):ToMX E n (.region id ops true) F X Q:=by
 intro R M B w0 a0 w Qw hf hg hp hQ;refine wp_mono (Q:=fun e a w=>e=.normal/\Qw .normal a w) ?_ (fun e a w h=>by obtain⟨rfl,h⟩:=h;exact h);obtain⟨g,el,fr,b1,b2,b3⟩:=hp.box (by omega) hs;have hsz:a0.tmps.size=n:=by obtain⟨M1,G1,i1,_⟩:=hp;exact i1.size
 have ea:a0.eval (.tmp a)=.string s2:=hp.lit (E:=E) (fun t ht=>by have h:=Operand.tmp.inj ht;exact h ▸ (show a<n by omega)) (x:=.tmp a) (by simp only[opd,ha,view,view1]);have eb:a0.eval (.tmp b)=.string s3:=hp.lit (E:=E) (fun t ht=>by have h:=Operand.tmp.inj ht;exact h ▸ (show b<n by omega)) (x:=.tmp b) (by simp only[opd,hb,view,view1]);have es:a0.eval (.tmp s)=.pointer (some ⟨g,0,none⟩):=Bjr b1;refine wp_region_held (S:=fun w=>w.heap[g]?=some (.cells [Value.map (some r1),.map (some r2),.map (some r3)].toArray el fr)) hm ?_;have hp0:Aav n R M B w0 F X a0 { w with drawn:=w.drawn+1 }:=hp.drawn rfl rfl rfl rfl;have hS:({ w with drawn:=w.drawn+1 }:World).heap[g]?=some (.cells [Value.map (some r1),.map (some r2),.map (some r3)].toArray el fr):=b2;generalize({ w with drawn:=w.drawn+1 }:World)=w1 at hp0 hS;rw[u.size];obtain⟨inf,hinf⟩:=u.inf;have hP:∀(c:List PanicEntry)(a:Act)(w:World)(v:Value)(dd:Option Tmp),(Exit.panic c=Exit.normal/\Qw .normal (a.put dd v) w)->(Exit.panic c=Exit.normal/\Qw .normal a w):=fun c a w v dd h=>by cases h.1
 have z:Rd n d a0 a0 []:=⟨Ais.refl _ _,hsz,fun x hx=>by cases hx⟩
 show wpAnyH E.P .any ops _ _ 14 (lst []) a0 w1;obtain⟨o0,i0,g0,d0,q0,e0⟩:=u.o0;refine wpAnyH_take (i:=0) (fuel:=13) (v:=.pointer (some ⟨g,0,none⟩)) i0 u.nosel (Abh u.f0).1 (Abh u.f0).2 (fun c a w=>hP c a w _ _) (Adr g0 fun w hS=>Asl (m:=0) e0 (z.low hn.1 es) rfl u.arr hinf u.one.2 (by decide)) hS ?_;rw[d0]
 replace z:=z.step (d) (.pointer (some ⟨g,0,none⟩)) (by omega) (by omega) (by simp)
 generalize Act.put _ (some (d)) _=a1 at z⊢;show wpAnyH E.P .any ops _ _ 13 (lst [0]) a1 _;obtain⟨o1,i1,g1,d1,e1⟩:=u.o1;refine wpAnyH_take (i:=1) (fuel:=12) (v:=.map (some r1)) i1 u.nosel (Abh u.f1).1 (Abh u.f1).2 (fun c a w=>hP c a w _ _) (Adr g1 fun w hS=>Ao0 e1 u.ut u.one.1 u.one.2 (z.ev (d,.pointer (some ⟨g,0,none⟩)) (by simp)) hS rfl) hS ?_;rw[d1]
 replace z:=z.step (d+1) (.map (some r1)) (by omega) (by omega) (by simp)
 generalize Act.put _ (some (d+1)) _=a2 at z⊢;show wpAnyH E.P .any ops _ _ 12 (lst [0,1]) a2 _;obtain⟨o2,i2,g2,d2,e2⟩:=u.o2;refine wpAnyH_take (i:=2) (fuel:=11) (v:=.string s2) i2 u.nosel (Abh u.f2).1 (Abh u.f2).2 (fun c a w=>hP c a w _ _) (Adr g2 fun w hS=>by rw[Am0 e2,z.low (by omega) ea]) hS ?_;rw[d2]
 replace z:=z.step (d+2) (.string s2) (by omega) (by omega) (by simp)
 generalize Act.put _ (some (d+2)) _=a3 at z⊢;show wpAnyH E.P .any ops _ _ 11 (lst [0,1,2]) a3 _;obtain⟨o3,i3,g3,d3,q3,e3⟩:=u.o3;refine wpAnyH_take (i:=3) (fuel:=10) (v:=.pointer (some ⟨g,1,none⟩)) i3 u.nosel (Abh u.f3).1 (Abh u.f3).2 (fun c a w=>hP c a w _ _) (Adr g3 fun w hS=>Asl (m:=1) e3 (z.low hn.1 es) rfl u.arr hinf u.one.2 (by decide)) hS ?_;rw[d3]
 replace z:=z.step (d+3) (.pointer (some ⟨g,1,none⟩)) (by omega) (by omega) (by simp)
 generalize Act.put _ (some (d+3)) _=a4 at z⊢;show wpAnyH E.P .any ops _ _ 10 (lst [0,1,2,3]) a4 _;obtain⟨o4,i4,g4,d4,e4⟩:=u.o4;refine wpAnyH_take (i:=4) (fuel:=9) (v:=.map (some r2)) i4 u.nosel (Abh u.f4).1 (Abh u.f4).2 (fun c a w=>hP c a w _ _) (Adr g4 fun w hS=>Ao0 e4 u.ut u.one.1 u.one.2 (z.ev (d+3,.pointer (some ⟨g,1,none⟩)) (by simp)) hS rfl) hS ?_;rw[d4]
 replace z:=z.step (d+4) (.map (some r2)) (by omega) (by omega) (by simp)
 generalize Act.put _ (some (d+4)) _=a5 at z⊢;show wpAnyH E.P .any ops _ _ 9 (lst [0,1,2,3,4]) a5 _;obtain⟨o5,i5,g5,d5,e5⟩:=u.o5;refine wpAnyH_take (i:=5) (fuel:=8) (v:=.string s3) i5 u.nosel (Abh u.f5).1 (Abh u.f5).2 (fun c a w=>hP c a w _ _) (Adr g5 fun w hS=>by rw[Am0 e5,z.low (by omega) eb]) hS ?_;rw[d5]
 replace z:=z.step (d+5) (.string s3) (by omega) (by omega) (by simp)
 generalize Act.put _ (some (d+5)) _=a6 at z⊢;show wpAnyH E.P .any ops _ _ 8 (lst [0,1,2,3,4,5]) a6 _;obtain⟨o6,i6,g6,d6,q6,e6⟩:=u.o6;refine wpAnyH_take (i:=6) (fuel:=7) (v:=.pointer (some ⟨g,2,none⟩)) i6 u.nosel (Abh u.f6).1 (Abh u.f6).2 (fun c a w=>hP c a w _ _) (Adr g6 fun w hS=>Asl (m:=2) e6 (z.low hn.1 es) rfl u.arr hinf u.one.2 (by decide)) hS ?_;rw[d6]
 replace z:=z.step (d+6) (.pointer (some ⟨g,2,none⟩)) (by omega) (by omega) (by simp)
 generalize Act.put _ (some (d+6)) _=a7 at z⊢;show wpAnyH E.P .any ops _ _ 7 (lst [0,1,2,3,4,5,6]) a7 _;obtain⟨o7,i7,g7,d7,e7⟩:=u.o7;refine wpAnyH_take (i:=7) (fuel:=6) (v:=.map (some r3)) i7 u.nosel (Abh u.f7).1 (Abh u.f7).2 (fun c a w=>hP c a w _ _) (Adr g7 fun w hS=>Ao0 e7 u.ut u.one.1 u.one.2 (z.ev (d+6,.pointer (some ⟨g,2,none⟩)) (by simp)) hS rfl) hS ?_;rw[d7]
 replace z:=z.step (d+7) (.map (some r3)) (by omega) (by omega) (by simp)
 generalize Act.put _ (some (d+7)) _=a8 at z⊢;show wpAnyH E.P .any ops _ _ 6 (lst [0,1,2,3,4,5,6,7]) a8 _;obtain⟨o8,i8,g8,d8,e8⟩:=u.o8;refine wpAnyH_take (i:=8) (fuel:=5) (v:=.string s2) i8 u.nosel (Abh u.f8).1 (Abh u.f8).2 (fun c a w=>hP c a w _ _) (Adr g8 fun w hS=>by rw[Am0 e8,z.low (by omega) ea]) hS ?_;rw[d8]
 replace z:=z.step (d+8) (.string s2) (by omega) (by omega) (by simp)
 generalize Act.put _ (some (d+8)) _=a9 at z⊢;show wpAnyH E.P .any ops _ _ 5 (lst [0,1,2,3,4,5,6,7,8]) a9 _;obtain⟨o9,i9,g9,d9,e9⟩:=u.o9;refine wpAnyH_take (i:=9) (fuel:=4) (v:=.string s3) i9 u.nosel (Abh u.f9).1 (Abh u.f9).2 (fun c a w=>hP c a w _ _) (Adr g9 fun w hS=>by rw[Am0 e9,z.low (by omega) eb]) hS ?_;rw[d9]
 replace z:=z.step (d+9) (.string s3) (by omega) (by omega) (by simp)
 generalize Act.put _ (some (d+9)) _=a10 at z⊢;show wpAnyH E.P .any ops _ _ 4 (lst [0,1,2,3,4,5,6,7,8,9]) a10 _;obtain⟨o10,i10,g10,d10,q10,e10⟩:=u.o10;refine wpAnyH_take (i:=10) (fuel:=3) (v:=.string (s2++s3)) i10 u.nosel (Abh u.f10).1 (Abh u.f10).2 (fun c a w=>hP c a w _ _) (Adr g10 fun w hS=>Bhp e10 (z.ev (d+8,.string s2) (by simp)) (z.ev (d+9,.string s3) (by simp)) hcat) hS ?_;rw[d10]
 replace z:=z.step (d+10) (.string (s2++s3)) (by omega) (by omega) (by simp)
 generalize Act.put _ (some (d+10)) _=a11 at z⊢;show wpAnyH E.P .any ops _ _ 3 (lst [0,1,2,3,4,5,6,7,8,9,10]) a11 _;obtain⟨o11,i11,g11,d11,e11⟩:=u.o11;refine wpAnyH_all (Amb u.r11) (by simp) fun i hi=>?_;obtain rfl:i=11:=by simpa using hi
 have hm11:w1.heap[r1]?=some (sMap k1):=hp0.heap (b:=(r1,sMap k1)) (by exact hr1);refine Aqt i11 g11 d11 e11 (w':={ w1 with heap:=w1.heap.setIfInBounds r1 (sMap (sIns s2 k1)) }) ?_ ⟨?_,?_⟩
 .have q1:=z.ev (d+1,.map (some r1)) (by simp);have q2:=z.ev (d+2,.string s2) (by simp);simp only at q1 q2;rw[q1,q2];exact Aik u.ut u.uk hm11 s2
 .show (w1.heap.setIfInBounds r1 _)[g]?=_;rw[zA,if_neg (b3 (r1,sMap k1) hr1)];exact hS
 have hS:({ w1 with heap:=w1.heap.setIfInBounds r1 (sMap (sIns s2 k1)) }:World).heap[g]?=some (.cells [Value.map (some r1),.map (some r2),.map (some r3)].toArray el fr):=by
  show(w1.heap.setIfInBounds r1 _)[g]?=_;rw[zA,if_neg (b3 (r1,sMap k1) hr1)];exact hS
 have hp1:=hp0.setX (r:=r1) (zB.2 ⟨_,hr1,rfl⟩) (sMap (sIns s2 k1));generalize({ w1 with heap:=w1.heap.setIfInBounds r1 (sMap (sIns s2 k1)) }:World)=w2 at hS hp1⊢;show wpAnyH E.P .any ops _ _ 2 (lst [0,1,2,3,4,5,6,7,8,9,10,11]) a11 w2;obtain⟨o12,i12,g12,d12,e12⟩:=u.o12;refine wpAnyH_all (Amb u.r12) (by simp) fun i hi=>?_;obtain rfl:i=12:=by simpa using hi
 have hm12:w2.heap[r2]?=some (sMap k2):=hp1.heap (b:=(r2,sMap k2)) (by exact zB.2 ⟨_,hr2,if_neg (Ne.symm h12)⟩);refine Aqt i12 g12 d12 e12 (w':={ w2 with heap:=w2.heap.setIfInBounds r2 (sMap (sIns s3 k2)) }) ?_ ⟨?_,?_⟩
 .have q1:=z.ev (d+4,.map (some r2)) (by simp);have q2:=z.ev (d+5,.string s3) (by simp);simp only at q1 q2;rw[q1,q2];exact Aik u.ut u.uk hm12 s3
 .show (w2.heap.setIfInBounds r2 _)[g]?=_;rw[zA,if_neg (b3 (r2,sMap k2) hr2)];exact hS
 have hS:({ w2 with heap:=w2.heap.setIfInBounds r2 (sMap (sIns s3 k2)) }:World).heap[g]?=some (.cells [Value.map (some r1),.map (some r2),.map (some r3)].toArray el fr):=by
  show(w2.heap.setIfInBounds r2 _)[g]?=_;rw[zA,if_neg (b3 (r2,sMap k2) hr2)];exact hS
 have hp2:=hp1.setX (r:=r2) (by rw[Aqi];exact zB.2 ⟨_,hr2,rfl⟩) (sMap (sIns s3 k2));generalize({ w2 with heap:=w2.heap.setIfInBounds r2 (sMap (sIns s3 k2)) }:World)=w3 at hS hp2⊢;show wpAnyH E.P .any ops _ _ 1 (lst [0,1,2,3,4,5,6,7,8,9,10,11,12]) a11 w3;obtain⟨o13,i13,g13,d13,e13⟩:=u.o13;refine wpAnyH_all (Amb u.r13) (by simp) fun i hi=>?_;obtain rfl:i=13:=by simpa using hi
 have hm13:w3.heap[r3]?=some (sMap k3):=hp2.heap (b:=(r3,sMap k3)) (by exact zB.2 ⟨_,zB.2 ⟨_,hr3,if_neg (Ne.symm h13)⟩,if_neg (Ne.symm h23)⟩);refine Aqt i13 g13 d13 e13 (w':={ w3 with heap:=w3.heap.setIfInBounds r3 (sMap (sIns (s2++s3) k3)) }) ?_ ⟨?_,?_⟩
 .have q1:=z.ev (d+7,.map (some r3)) (by simp);have q2:=z.ev (d+10,.string (s2++s3)) (by simp);simp only at q1 q2;rw[q1,q2];exact Aik u.ut u.uk hm13 (s2++s3)
 .show (w3.heap.setIfInBounds r3 _)[g]?=_;rw[zA,if_neg (b3 (r3,sMap k3) hr3)];exact hS
 have hS:({ w3 with heap:=w3.heap.setIfInBounds r3 (sMap (sIns (s2++s3) k3)) }:World).heap[g]?=some (.cells [Value.map (some r1),.map (some r2),.map (some r3)].toArray el fr):=by
  show(w3.heap.setIfInBounds r3 _)[g]?=_;rw[zA,if_neg (b3 (r3,sMap k3) hr3)];exact hS
 have hp3:=hp2.setX (r:=r3) (by rw[Aqi,Aqi];exact zB.2 ⟨_,hr3,rfl⟩) (sMap (sIns (s2++s3) k3));generalize({ w3 with heap:=w3.heap.setIfInBounds r3 (sMap (sIns (s2++s3) k3)) }:World)=w4 at hS hp3⊢;show wpAnyH E.P .any ops _ _ 0 (lst [0,1,2,3,4,5,6,7,8,9,10,11,12,13]) a11 w4;refine wpAnyH_done (Amb u.r14) ⟨rfl,?_⟩ _;exact hQ .normal F _ a11 w4 k (hp3.act (z.alike.1) z.alike.2.1 fun s hs=>z.alike.2.2 s (hF s hs))
end
end Go.Own
