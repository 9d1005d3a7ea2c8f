/- An interpreter of function bodies, sound. No conditions. -/
import Derived.Laws.CopyRow
import Derived.Test.YtockohmmmlhhfabGreatDoorOwn26
import Derived.Test.YtockohmmmlhhfabGreatDoorOwn17
import Derived.Test.YtockohmmmlhhfabGreatDoorOwn29
set_option linter.all false
namespace Go.Own
open D
theorem Asv {M:Mem}:∀ {l:List Value} {cs:List T},T.wfC M cs->T.eraseC cs=l.map D.lit->T.vals cs=l/\T.blocksC cs=[]
 | [],[],_,_=>⟨rfl,rfl⟩
 | [],_::_,_,h=>by simp [T.eraseC] at h
 | _::_,[],_,h=>by simp [T.eraseC] at h
 | v::l,c::cs,hw,h=>by
  simp only [T.eraseC,List.map_cons,List.cons.injEq] at h;simp only [T.wfC] at hw;obtain ⟨i1,i2⟩:=Asv hw.2 h.2;cases c with
  | leaf d u=>
   have h1:=h.1;simp only [T.erase] at h1;subst h1;rcases hw.1 with ⟨h,_⟩ | h
   ·cases h
   ·simp only [RI] at h;exact ⟨by simp only [T.vals,T.val,i1,h.1],by simp only [T.blocksC,T.blocks,i2,List.append_nil]⟩
  | _=>simp [T.erase] at h
def Afb (l:List Value):List T:=l.map fun v=>.leaf (.lit v) v
theorem Auq {M:Mem}:∀ {l:List Value},(∀ v∈l,v.oneCell'=true)->T.eraseC (Afb l)=l.map D.lit/\T.vals (Afb l)=l/\T.blocksC (Afb l)=[]/\T.tidyC (Afb l)/\T.wfC M (Afb l)
 | [],_=>⟨rfl,rfl,rfl,trivial,trivial⟩
 | v::l,h=>by
  obtain ⟨a1,a2,a3,a4,a5⟩:=Auq (M:=M) (l:=l) fun v hv=>h v (by simp [hv]);simp only [Afb] at a1 a2 a3 a4 a5;refine ⟨by simp only [Afb,List.map_cons,T.eraseC,T.erase,a1],by simp only [Afb,List.map_cons,T.vals,T.val,a2],by simp only [Afb,List.map_cons,T.blocksC,T.blocks,a3,List.append_nil],?_,?_⟩
  ·simp only [Afb,List.map_cons,T.tidyC];exact ⟨by simp [T.tidy],a4⟩
  ·simp only [Afb,List.map_cons,T.wfC];exact ⟨.inr (by simp only [RI];exact ⟨trivial,h v (by simp)⟩),a5⟩
theorem Aqn:∀ {tss:List (List T)} {zs:List Int} {M:Mem},tss.map (·.map T.erase)=(zs.map fun z=>[D.lit (.int .i64 z)])->T.wfE M tss->T.valsE tss=zs.map (Value.int .i64)
 | [],[],_,_,_=>rfl
 | [],_::_,_,h,_=>by cases h
 | _::_,[],_,h,_=>by cases h
 | x::tss,z::zs,M,h,hw=>by
  simp only [List.map_cons,List.cons.injEq] at h;obtain ⟨hx,ht⟩:=h;simp only [T.wfE] at hw
  match x,hx,hw.1 with
  | [u],hx,hwx=>
   simp only [List.map_cons,List.map_nil,List.cons.injEq,and_true] at hx;obtain ⟨v,rfl⟩:∃ v,u=.leaf (.lit (.int .i64 z)) v:=by
    cases u with
    | leaf d v=>simp only [T.erase] at hx;subst hx;exact ⟨v,rfl⟩
    | _=>simp [T.erase] at hx
   have hv:v=.int .i64 z:=by
    have:=hwx.1;simp only [T.wf,RI] at this;rcases this with ⟨h,_⟩ | h
    ·cases h
    ·exact h.1
   subst hv;have:=Aqn ht hw.2;simp only [T.valsE,T.vals,T.val,List.map_cons,this,List.cons_append,List.nil_append]
  | [],hx,_=>simp at hx
  | _::_::_,hx,_=>simp at hx
section
variable {P:Program} {M:Mem} {w:World}
theorem Az4 {y1 y2:T} {l:List Value} {ids:List Int} {t e ty:Nat} (h0:ids≠[]) (hl:ids.length<=l.length) (h1:∀ v∈l,v.oneCell'=true) (ht:P.underlying t=some (.slice e)) (he:(P.info? e).map (·.size)=some 1)
  (e1:y1.erase=.box (l.map D.lit)) (e2:y2.erase=idsD ids) (d2:y2.tidy) (w1:T.wf M y1) (w2:T.wf M y2) (hb:BlkOK M w (y1.blocks++y2.blocks)) (hm:Aar M w) :
  ∃ g w',y1.val=.pointer (some ⟨g,0,none⟩)/\(Builtin.copy_ #[t,t] ty #[.slice (some ⟨g,0,none⟩) l.length l.length,y2.val]).run P w=.ok (goInt ids.length) w' /\
   Akv M w y1 y2 (goInt ids.length) (.box ((ids.map (Value.int .i64)++l.drop ids.length).map D.lit)) (idsD ids) (.returned (goInt ids.length)) w':=by
 obtain ⟨g,el,cs,rfl⟩:∃ g el cs,y1=.box g el cs:=by
  cases y1 with
  | box g el cs=>exact ⟨g,el,cs,rfl⟩
  | leaf d v=>simp only [T.erase] at e1;subst e1;simp [T.wf,RI] at w1
  | _=>simp [T.erase] at e1
 simp only [T.erase,D.box.injEq] at e1;obtain ⟨v1,b1⟩:=Asv (show T.wfC M cs from w1) e1;obtain ⟨g5,cap,e5,sp,es,rfl⟩:∃ g cap e sp es,y2=.own g cap e sp es:=by
  cases y2 with
  | own g cap e sp es=>exact ⟨g,cap,e,sp,es,rfl⟩
  | leaf d v=>simp only [T.erase] at e2;subst e2;simp [T.wf,RI,idsD] at w2
  | nil=>
   exfalso;simp only [T.erase,idsD,D.own.injEq] at e2;exact h0 (List.map_eq_nil_iff.1 e2.symm)
  | _=>simp [T.erase,idsD] at e2
 have e2':es.map (·.map T.erase)=ids.map fun i=>[D.lit (.int .i64 i)]:=by
  simp only [T.erase,T.eraseE_eq,idsD,D.own.injEq] at e2;exact e2
 have hw5:=w2;simp only [T.wf] at hw5;have hvals:=Aqn e2' hw5.2.2.2.2;have hlen:es.length=ids.length:=by have:=congrArg List.length e2';simpa using this
 have bE:T.blocksE es=[]:=Agi (by simpa [T.tidy] using d2) hw5.2.2.2.2 (by rw [e2'];simp [D.ex1]);have hblk1:(T.box g el cs).blocks=[(g,.cells l.toArray el (0,0))]:=by simp only [T.blocks,v1,b1]
 have hblk2:(T.own g5 cap e5 sp es).blocks=[(g5,.cells (T.valsE es++sp).toArray e5 (0,0))]:=by simp only [T.blocks,bE]
 have hB:BlkOK M w ((g,.cells l.toArray el (0,0))::[(g5,.cells (T.valsE es++sp).toArray e5 (0,0))]):=by rw [hblk1,hblk2] at hb;exact hb
 have hg:=hB.heap (g,.cells l.toArray el (0,0)) (by simp);have hg5:=hB.heap (g5,.cells (T.valsE es++sp).toArray e5 (0,0)) (by simp);have hgM:=hB.apart (g,.cells l.toArray el (0,0)) (by simp);simp only at hg hg5 hgM;have hrun:=run_copy_row (P:=P) (ty:=ty) w t t e g 0 l.length l.length ⟨g5,0,none⟩ ids.length cap l.toArray el (ids.map (Value.int .i64)) ht he hg
  (by rw [List.length_map];exact (Nat.min_eq_left hl).symm) (fun j v hj=>by
   rw [Addr.add_lit];simp only [World.cell?,hg5,Nat.zero_add,List.getElem?_toArray,hvals];have hjl:=(List.getElem?_eq_some_iff.1 hj).1
   rw [List.getElem?_append_left hjl,hj];simp) (by simpa using hl) (fun v hv=>by obtain ⟨i,_,rfl⟩:=List.mem_map.1 hv;rfl)
 rw [List.length_map] at hrun;simp only [Nat.zero_add,List.take_zero,List.nil_append] at hrun;have hnew:∀ v∈ids.map (Value.int .i64)++l.drop ids.length,v.oneCell'=true:=fun v hv=>by
  rcases List.mem_append.1 hv with hv | hv
  ·obtain ⟨i,_,rfl⟩:=List.mem_map.1 hv;rfl
  ·exact h1 v (List.mem_of_mem_drop hv)
 obtain ⟨a1,a2,a3,a4,a5⟩:=Auq (M:=M) hnew;refine ⟨g,w.setRow g (ids.map (Value.int .i64)++l.drop ids.length).toArray,rfl,?_,?_⟩
 ·rw [show (T.own g5 cap e5 sp es).val=.slice (some ⟨g5,0,none⟩) ids.length cap by simp only [T.val,hlen]];exact hrun
 ·have hz1:(T.box g el (Afb (ids.map (Value.int .i64)++l.drop ids.length))).blocks=[(g,.cells (ids.map (Value.int .i64)++l.drop ids.length).toArray el (0,0))]:=by simp only [T.blocks,a2,a3]
  refine ⟨M,.box g el (Afb (ids.map (Value.int .i64)++l.drop ids.length)),.own g5 cap e5 sp es,rfl,by simp only [T.erase,a1],e2,a4,d2,a5,w2,rfl,rfl,?_,?_,?_⟩
  ·rw [hz1,hblk2];exact hB.setRow
  ·exact hm.setRow hgM _
  ·refine ((Evo.refl M (keys ((T.box g el cs).blocks++(T.own g5 cap e5 sp es).blocks)) w).setRow (g:=g) (by rw [hblk1];simp [keys]) _).weaken fun k hk=>?_;rw [hz1] at hk;rw [hblk1];exact hk
end
section
variable {E:Env} {n:Nat} {F:Fr} {X:List (Nat×Obj)} {Q:Ex->Fr->List (Nat×Obj)->Prop}
theorem WX.copy {ops:Array Oper} {rest:List Nat} {i0 i1 i2:Nat} {o0 o1 o2:Oper} (h0:ops[i0]? = some o0) (h1:ops[i1]? = some o1) (h2:ops[i2]? = some o2) (g0:o0.guard=none) (g1:o1.guard=none) (g2:o2.guard=none)
  {kt s1 s2 d0 d1 d2 t e:Nat} (q0:o0.op=.slice kt (.tmp s1) none none none) (q1:o1.op=.move (.tmp s2)) (q2:o2.op=.call { callee:=.builtin .copy,args:=#[.tmp d0,.tmp d1],argTypes:=#[t,t] }) (r0:o0.dst=some d0) (r1:o1.dst=some d1) (r2:o2.dst=some d2)
  (hd:d0<n/\d1<n/\d2<n) (hs:s1<n/\s2<n) (hne:s1≠s2) (hdd:d0≠d1/\d0≠s2) (hk:∀ s∈F.map Prod.fst,s≠d0/\s≠d1/\s≠d2)
  {l:List Value} {ids:List Int} (hids:ids≠[]) (hl:ids.length<=l.length) (hone:∀ v∈l,v.oneCell'=true) (hkt:E.P.underlying kt=some (.array l.length e)) (ht:E.P.underlying t=some (.slice e)) (he:(E.P.info? e).map (·.size)=some 1)
  (f1:get F s1=.box (l.map D.lit)) (f2:get F s2=idsD ids)
  (k:WX E n ops rest (killF (Ad9 s1 s2) (put0 (put0 F s1 (.box ((ids.map (Value.int .i64)++l.drop ids.length).map D.lit))) s2 (idsD ids))) X Q):WX E n ops (i0::i1::i2::rest) F X Q:=by
 intro R M B w0 a w Qw hfit hg ⟨M1,G1,inv,e1,ox⟩ hQ;have n1:(getT G1 s1).erase=.box (l.map D.lit):=by rw [← inv.get];exact f1
 have n2:(getT G1 s2).erase=idsD ids:=by rw [← inv.get];exact f2
 have m1:(getT G1 s1).node=true:=by
  cases hq:getT G1 s1 with
  | box=>rfl
  | leaf d v=>
   have hok:=inv.okG s1;rw [hq] at n1 hok;simp only [T.erase] at n1;subst n1;simp [Aao,LOK,L1,RI] at hok
  | _=>rw [hq] at n1;simp [T.erase] at n1
 have m2:(getT G1 s2).node=true:=by
  cases hq:getT G1 s2 with
  | own=>rfl
  | nil=>rfl
  | leaf d v=>
   have hok:=inv.okG s2;rw [hq] at n2 hok;simp only [T.erase] at n2;subst n2;simp [Aao,LOK,L1,RI,idsD] at hok
  | _=>rw [hq] at n2;simp [T.erase,idsD] at n2
 obtain ⟨td1,w1⟩:=node_wf inv m1;obtain ⟨td2,w2⟩:=node_wf inv m2;obtain ⟨g,w',hv,hrun,hpost⟩:=Az4 (P:=E.P) (t:=t) (ty:=o2.type) hids hl hone ht he n1 n2 td2 w1 w2 (Als inv hne) inv.mem;have ev:∀ {s:Nat},s<n->(getT G1 s).node=true->a.eval (.tmp s)=(getT G1 s).val:=fun {s} hs hn=>by
  have:=inv.vals s _ (Aaz (G:=G1) (s:=s) (ps:=[]) (x:=getT G1 s) rfl hn);rw [if_pos hs] at this;simp [Act.eval,Array.getD_eq_getD_getElem?,this]
 have v1:=(ev hs.1 m1).trans hv;have v2:=ev hs.2 m2;have hsz:=inv.size;have hN:l.length≠0:=fun h=>hids (List.eq_nil_of_length_eq_zero (by omega));obtain ⟨inf,hinf,hi1⟩:∃ i,E.P.info? e=some i/\i.size=1:=by
  cases hq:E.P.info? e with
  | none=>rw [hq] at he;cases he
  | some i=>rw [hq] at he;exact ⟨i,rfl,by simpa using he⟩
 have x0:(execOp a.eval o0).run E.P w=.ok (.value (.slice (some ⟨g,0,none⟩) l.length l.length)) w:=by
  simp [execOp,q0,v1,Instr.sliceAt,Instr.sureAddr,run_underlying hkt,Instr.sliceBounds,Acb hinf,Addr.add]
 have one:∀ {i:Nat} {o:Oper} {a:Act} {v:Value} {w1:World} {l:List Nat},ops[i]? = some o->o.guard=none->(execOp a.eval o).run E.P w=.ok (.value v) w1->wpOps E.P ops Qw l (a.put o.dst v) w1->wpOps E.P ops Qw (i::l) a w:=fun {i o a v w1 l} ho hgd hx hk=>by
  rw [wpOps_cons];unfold wpOp;simp only [ho];have hw:Region.wanted o (yielded ops a.tmps)=true:=by unfold Region.wanted;rw [hgd]
  rw [hw];simp only [if_true];exact .inl (Aa8 hx hk)
 refine one h0 g0 x0 ?_;rw [r0];have e2:(a.put (some d0) (.slice (some ⟨g,0,none⟩) l.length l.length)).eval (.tmp s2)=(getT G1 s2).val:=by
  rw [Al8 (by omega),if_neg (fun h=>hdd.2 h.symm)];exact v2
 refine one h1 g1 (Az5 q1) ?_;rw [e2,r1];have y0:((a.put (some d0) (.slice (some ⟨g,0,none⟩) l.length l.length)).put (some d1) (getT G1 s2).val).eval (.tmp d0)=.slice (some ⟨g,0,none⟩) l.length l.length:=by
  rw [Al8 (by simp [Act.put];omega),if_neg hdd.1,Al8 (by omega),if_pos rfl]
 have y1:((a.put (some d0) (.slice (some ⟨g,0,none⟩) l.length l.length)).put (some d1) (getT G1 s2).val).eval (.tmp d1)=(getT G1 s2).val:=by
  rw [Al8 (by simp [Act.put];omega),if_pos rfl]
 refine one h2 g2 (v:=goInt ids.length) (w1:=w') ?_ ?_
 ·simp only [execOp,q2,resolve,invoke,builtin,Sem.run_bind,Sem.run_pure,Result.andThen_ok,List.map_toArray,List.map_cons,List.map_nil,y0,y1,hrun]
 rw [r2];obtain ⟨_,hpx⟩:=Aco.call2 inv e1 ox hne m1 m2 (by rfl) (by rfl) hpost;refine k R M B w0 _ w' Qw hfit hg (hpx.act ?_ ?_ ?_) hQ
 ·simp [Act.put]
 ·simp [Act.put]
 ·intro s hsF;have hsF':s∈F.map Prod.fst:=by
   have e1:∀ (F:Fr) (dead:Bool->Nat->Path->Bool),(killF dead F).map Prod.fst=F.map Prod.fst:=fun F dead=>by simp [killF]
   rw [e1] at hsF;have e3:∀ (F:Fr) (q:Nat) (d:D),get F q≠.undef->(put0 F q d).map Prod.fst=F.map Prod.fst:=by
    intro F q d
    induction F with
    | nil=>intro h;exact absurd rfl h
    | cons y F ih=>
     obtain ⟨k,e⟩:=y;intro h;simp only [put0];by_cases hkq:k=q
     ·rw [if_pos hkq,hkq];rfl
     ·rw [if_neg hkq];simp only [get,if_neg hkq] at h;simp only [List.map_cons,ih h]
   rw [e3,e3] at hsF
   ·exact hsF
   ·rw [f1];simp
   ·rw [get_put0_other _ _ hne.symm,f2];simp [idsD]
  obtain ⟨k0,k1,k2⟩:=hk s hsF';simp [Act.put,Ne.symm k0,Ne.symm k1,Ne.symm k2]
end
end Go.Own
