/- An interpreter of function bodies, sound. No conditions. -/
import Derived.OrdersHeld
import Derived.Test.YtockohmmmlhhfabGreatDoorOwn24
import Derived.Test.YtockohmmmlhhfabGreatDoorOwn18
set_option linter.all false
namespace Go.Own
open D
def Al9 (k:Nat):Code->Option (Array Oper×Bool)
 | .region id ops d=>if Nat.beq id k then some (ops,d) else none
 | .seq a b=>match Al9 k a with
  | some x=>some x
  | none=>Al9 k b
 | .cond _ a b=>match Al9 k a with
  | some x=>some x
  | none=>Al9 k b
 | .block _ b=>Al9 k b
 | .loop b=>Al9 k b
 | _=>none
def Abo (fd:Func) (k:Nat):Array Oper:=match fd.body.bind (Al9 k) with
 | some (ops,_)=>ops
 | none=>#[]
section
variable {P:Program} {o:Oper} {a:Act} {w:World}
theorem Az5 {x:Operand} (ho:o.op=.move x):(execOp a.eval o).run P w=.ok (.value (a.eval x)) w:=by simp only [execOp,ho,Sem.run_pure]
theorem Al8 {d:Nat} {v:Value} (hd:d<a.tmps.size) (s:Nat):(a.put (some d) v).eval (.tmp s)=if s=d then v else a.eval (.tmp s):=by
 simp only [Act.eval,Act.put,Array.getD_eq_getD_getElem?,Array.getElem?_setIfInBounds];by_cases h:s=d
 ·subst h;simp [hd]
 ·rw [if_neg (Ne.symm h),if_neg h]
def Bbo (k:Nat) (a a':Act):Prop:=a'.tmps.size=a.tmps.size/\a'.defers=a.defers/\∀ s,s<k->a'.tmps[s]? = a.tmps[s]?
end
section
variable {n:Nat} {R:Nat->Value} {M:Mem} {B:List Nat} {w0:World} {a:Act} {w:World} {F:Fr} {X:List (Nat×Obj)}
end
def lst (l:List Nat):Array Bool:=l.foldl (fun A i=>A.setIfInBounds i true) (Array.replicate 14 false)
def Agp (ops:Array Oper) (l:List Nat) (i:Nat):Bool:=Region.free .any ops (lst l) i&&(Region.ready .any ops (lst l)).contains i
def Aqt (ops:Array Oper) (l r:List Nat):Bool:=Region.ready .any ops (lst l) == r
structure Rd (n d:Nat) (a0 a:Act) (l:List (Nat×Value)):Prop where
 alike:Bbo d a0 a
 size:a.tmps.size=n
 ev:∀ x∈l,a.eval (.tmp x.1)=x.2
structure Upd3 (P:Program) (ops:Array Oper) (tA tM tS kt e:Nat) (s a b d:Nat):Prop where
 size:ops.size=14
 nosel:Region.noSelect ops=true
 ut:P.underlying tM=some (.map kt e)
 uk:P.underlying kt=some .string
 one:isAggT P tM=false/\sizeT P tM=1
 arr:P.underlying tA=some (.array 3 tM)
 inf:∃ i,P.info? tM=some i
 o0:∃ o,ops[0]? = some o/\o.guard=none/\o.dst=some d/\∃ q,o.op=.indexAddr tA (.tmp s) (.const (.int q 0))
 o1:∃ o,ops[1]? = some o/\o.guard=none/\o.dst=some (d+1)/\o.op=.load tM (.tmp d)
 o2:∃ o,ops[2]? = some o/\o.guard=none/\o.dst=some (d+2)/\o.op=.move (.tmp a)
 o3:∃ o,ops[3]? = some o/\o.guard=none/\o.dst=some (d+3)/\∃ q,o.op=.indexAddr tA (.tmp s) (.const (.int q 1))
 o4:∃ o,ops[4]? = some o/\o.guard=none/\o.dst=some (d+4)/\o.op=.load tM (.tmp (d+3))
 o5:∃ o,ops[5]? = some o/\o.guard=none/\o.dst=some (d+5)/\o.op=.move (.tmp b)
 o6:∃ o,ops[6]? = some o/\o.guard=none/\o.dst=some (d+6)/\∃ q,o.op=.indexAddr tA (.tmp s) (.const (.int q 2))
 o7:∃ o,ops[7]? = some o/\o.guard=none/\o.dst=some (d+7)/\o.op=.load tM (.tmp (d+6))
 o8:∃ o,ops[8]? = some o/\o.guard=none/\o.dst=some (d+8)/\o.op=.move (.tmp a)
 o9:∃ o,ops[9]? = some o/\o.guard=none/\o.dst=some (d+9)/\o.op=.move (.tmp b)
 o10:∃ o,ops[10]? = some o/\o.guard=none/\o.dst=some (d+10)/\∃ ty,o.op=.binOp .add tS (.tmp (d+8)) (.tmp (d+9)) ty
 o11:∃ o,ops[11]? = some o/\o.guard=none/\o.dst=none/\o.op=.mapUpdate tM (.tmp (d+1)) (.tmp (d+2)) (.const (.bool true))
 o12:∃ o,ops[12]? = some o/\o.guard=none/\o.dst=none/\o.op=.mapUpdate tM (.tmp (d+4)) (.tmp (d+5)) (.const (.bool true))
 o13:∃ o,ops[13]? = some o/\o.guard=none/\o.dst=none/\o.op=.mapUpdate tM (.tmp (d+7)) (.tmp (d+10)) (.const (.bool true))
 f0:Agp ops [] 0=true
 f1:Agp ops [0] 1=true
 f2:Agp ops [0,1] 2=true
 f3:Agp ops [0,1,2] 3=true
 f4:Agp ops [0,1,2,3] 4=true
 f5:Agp ops [0,1,2,3,4] 5=true
 f6:Agp ops [0,1,2,3,4,5] 6=true
 f7:Agp ops [0,1,2,3,4,5,6] 7=true
 f8:Agp ops [0,1,2,3,4,5,6,7] 8=true
 f9:Agp ops [0,1,2,3,4,5,6,7,8] 9=true
 f10:Agp ops [0,1,2,3,4,5,6,7,8,9] 10=true
 r11:Aqt ops [0,1,2,3,4,5,6,7,8,9,10] [11]=true
 r12:Aqt ops [0,1,2,3,4,5,6,7,8,9,10,11] [12]=true
 r13:Aqt ops [0,1,2,3,4,5,6,7,8,9,10,11,12] [13]=true
 r14:Aqt ops [0,1,2,3,4,5,6,7,8,9,10,11,12,13] []=true
section
variable {E:Env} {n id:Nat} {ops:Array Oper} {tA tM tS kt e s a b d:Nat} {F:Fr} {X:List (Nat×Obj)} {Q:Ex->Fr->List (Nat×Obj)->Prop} {r1 r2 r3:Nat} {k1 k2 k3:List ByteArray} {s2 s3:ByteArray}
end
end Go.Own
namespace Go.Own
open D
def Ad9 (s1 s2:Nat) (b:Bool) (s:Nat) (p:Path):Bool:=deadIn s1 [] b s p || deadIn s2 [] b s p
section
variable {n:Nat} {R:Nat->Value} {M:Mem} {F:Fr} {G:FT} {H:Blks} {a:Act} {w:World}
theorem Azb {G:FT} {s1 s2:Nat} {z1 z2:T} (hne:s1≠s2) (v1:z1.val=(getT G s1).val) (v2:z2.val=(getT G s2).val) (n1:z1.node=true) (n2:z2.node=true):Adi G (Aa7 (Aa7 G s1 z1) s2 z2) (Ad9 s1 s2):=by
 have e1:getT (Aa7 (Aa7 G s1 z1) s2 z2) s1=z1:=by rw [Aaq _ _ hne,Abr]
 have e2:getT (Aa7 (Aa7 G s1 z1) s2 z2) s2=z2:=Abr _ _ _;intro s p y hy hn;by_cases h1:s=s1
 ·subst h1;rw [e1];cases p with
  | nil=>
   simp only [T.getP,zJ] at hy;subst hy;refine ⟨fun _=>⟨z1,by simp [T.getP],n1,v1⟩,fun hd=>?_⟩;simp [Ad9,deadIn,pre] at hd
  | cons q p=>
   refine ⟨fun hd=>?_,fun hd=>?_⟩<;>simp [Ad9,deadIn,pre] at hd
 by_cases h2:s=s2
 ·subst h2;rw [e2];cases p with
  | nil=>
   simp only [T.getP,zJ] at hy;subst hy;refine ⟨fun _=>⟨z2,by simp [T.getP],n2,v2⟩,fun hd=>?_⟩;simp [Ad9,deadIn,pre] at hd
  | cons q p=>
   refine ⟨fun hd=>?_,fun hd=>?_⟩<;>simp [Ad9,deadIn,pre] at hd
 ·rw [Aaq _ _ h2,Aaq _ _ h1];exact ⟨fun _=>⟨y,hy,hn,rfl⟩,fun _=>⟨y,hy,T.like_refl hn⟩⟩
theorem Inv.upd2 (h:Inv n R M F G H a w) {M':Mem} {H':Blks} {w':World} (hM:M.le M') {s1 s2:Nat} (hne:s1≠s2) {z1 z2:T}
  (h1:(getT G s1).node=true) (h2:(getT G s2).node=true) (v1:z1.val=(getT G s1).val) (v2:z2.val=(getT G s2).val) (n1:z1.node=true) (n2:z2.node=true) (t1:z1.tidy) (t2:z2.tidy) (w1:T.wf M' z1) (w2:T.wf M' z2)
  (hblk:BlkOK M' w' (Aa0 (Aa7 (Aa7 G s1 z1) s2 z2)++H')) (hmem:Aar M' w') :
  Inv n R M' (killF (Ad9 s1 s2) (put0 (put0 F s1 z1.erase) s2 z2.erase)) (Aed (Ad9 s1 s2) (Aa7 (Aa7 G s1 z1) s2 z2)) H' a w':=by
 have hk:=Ak0 (Azb (G:=G) hne v1 v2 n1 n2);have f1:Aaa G s1=some (getT G s1):=Aaz (ps:=[]) (x:=getT G s1) rfl h1;have f2:Aaa G s2=some (getT G s2):=Aaz (ps:=[]) (x:=getT G s2) rfl h2;have cases3:∀ k t,Aaa (Aed (Ad9 s1 s2) (Aa7 (Aa7 G s1 z1) s2 z2)) k=some t->(k=s1/\t=T.kill2 (Ad9 s1 s2) z1)∨(k=s2/\t=T.kill2 (Ad9 s1 s2) z2)∨(∃ t0,Aaa G k=some t0/\t=T.kill2 (Ad9 s1 s2) t0/\k≠s1/\k≠s2):=by
  intro k t hf;rw [Adt] at hf;by_cases hk2:k=s2
  ·subst hk2;rw [Acr] at hf;simp only [Option.map_some,zJ] at hf;exact .inr (.inl ⟨rfl,hf.symm⟩)
  ·rw [Ach _ _ hk2] at hf;by_cases hk1:k=s1
   ·subst hk1;rw [Acr] at hf;simp only [Option.map_some,zJ] at hf;exact .inl ⟨rfl,hf.symm⟩
   ·rw [Ach _ _ hk1] at hf;cases hg:Aaa G k with
    | none=>simp [hg] at hf
    | some t0=>
     simp only [hg,Option.map_some,zJ] at hf;exact .inr (.inr ⟨t0,rfl,hf.symm,hk1,hk2⟩)
 have wfS:∀ {G:FT} {z:T},z.node=true->T.wf M' z->Aao M' G z:=fun {G z} hn hw=>by
  refine Abj (Aca hw ?_);cases z with
  | leaf d v=>cases d<;>simp_all [T.node,T.erase]
  | agg=>simp [T.wf] at hw
  | tup=>simp [T.wf] at hw
  | _=>simp [T.erase]
 exact {
  er:=by rw [Ajw,← All,← All,h.er]
  size:=h.size
  defers:=h.defers
  vals:=fun k t hf=>by
   rcases cases3 k t hf with ⟨rfl,rfl⟩ | ⟨rfl,rfl⟩ | ⟨t0,hg,rfl,_,_⟩
   ·rw [T.val_kill2,v1];exact h.vals _ _ f1
   ·rw [T.val_kill2,v2];exact h.vals _ _ f2
   ·rw [T.val_kill2];exact h.vals k t0 hg
  tidy:=fun k t hf=>by
   rcases cases3 k t hf with ⟨rfl,rfl⟩ | ⟨rfl,rfl⟩ | ⟨t0,hg,rfl,_,_⟩
   ·exact T.tidy_kill2 _ _ t1
   ·exact T.tidy_kill2 _ _ t2
   ·exact T.tidy_kill2 _ _ (h.tidy k t0 hg)
  ok:=fun k t hf=>by
   rcases cases3 k t hf with ⟨rfl,rfl⟩ | ⟨rfl,rfl⟩ | ⟨t0,hg,rfl,_,_⟩
   ·exact SlotOK_kill (Mem.le_refl M') hk (wfS (G:=G) n1 w1)
   ·exact SlotOK_kill (Mem.le_refl M') hk (wfS (G:=G) n2 w2)
   ·exact SlotOK_kill hM hk (h.ok k t0 hg)
  blk:=by rw [Aay];exact hblk
  mem:=hmem }
def Akv (M:Mem) (w:World) (y1 y2:T) (v:Value) (o1 o2:D) (e:Ending) (w':World):Prop:=
 ∃ M' z1 z2,e=.returned v/\z1.erase=o1/\z2.erase=o2/\z1.tidy/\z2.tidy/\T.wf M' z1/\T.wf M' z2/\z1.val=y1.val/\z2.val=y2.val /\
  BlkOK M' w' (z1.blocks++z2.blocks)/\Aar M' w'/\Evo M (keys (y1.blocks++y2.blocks)) w M' (keys (z1.blocks++z2.blocks)) w'
theorem Bbm {A B C:Blks}:(A++(B++C)).Perm (B++(A++C)):=by
 rw [← List.append_assoc,← List.append_assoc];exact List.Perm.append_right _ List.perm_append_comm
theorem Aco.call2 {X:List (Nat×Obj)} {B:List Nat} {w0:World} (h:Inv n R M F G [] a w) {M0:Mem} (e1:Evo M0 B w0 M (keys (Aa0 G)) w) (ox:OutX X M G w0 w) {s1 s2:Nat} (hne:s1≠s2) (h1:(getT G s1).node=true) (h2:(getT G s2).node=true)
  {v:Value} {o1 o2:D} (n1:o1.node1=true) (n2:o2.node1=true) {e:Ending} {w':World} (hp:Akv M w (getT G s1) (getT G s2) v o1 o2 e w') :
  e=.returned v/\Aco n R M0 B w0 (killF (Ad9 s1 s2) (put0 (put0 F s1 o1) s2 o2)) X a w':=by
 obtain ⟨M',z1,z2,rfl,rfl,rfl,t1,t2,w1,w2,v1,v2,hblk,hmem,ev⟩:=hp;refine ⟨rfl,?_⟩;obtain ⟨ra,pa,qa⟩:=Ad6 G s1;obtain ⟨rb,pb,qb⟩:=Ad6 (Aa7 G s1 z1) s2;rw [Aaq _ _ hne.symm] at pb;have hin2:∃ r3,ra.Perm ((getT G s2).blocks++r3):=by
  obtain ⟨rc,pc,_⟩:=Ad6 (Aa7 G s1 (.leaf .undef (getT G s1).val)) s2;rw [Aaq _ _ hne.symm] at pc;have:=qa (.leaf .undef (getT G s1).val);simp only [T.blocks,List.nil_append] at this;exact ⟨rc,this.trans pc.symm⟩
 obtain ⟨r3,p3⟩:=hin2;have hG:((getT G s1).blocks++(getT G s2).blocks++r3).Perm (Aa0 G):=by
  rw [List.append_assoc];exact (List.Perm.append_left _ p3.symm).trans pa
 have hb3:rb.Perm (z1.blocks++r3):=by
  have q1:=pb.trans (qa z1).symm;have q2:=q1.trans (List.Perm.append_left _ p3);exact (List.perm_append_left_iff _).1 (q2.trans Bbm)
 have hG2:((z1.blocks++z2.blocks)++r3).Perm (Aa0 (Aa7 (Aa7 G s1 z1) s2 z2)):=by
  rw [List.append_assoc];exact Bbm.trans ((List.Perm.append_left _ hb3.symm).trans (qb z2))
 have hold:BlkOK M w ((getT G s1).blocks++(getT G s2).blocks++r3):=(h.blk.perm (by rw [List.append_nil])).perm hG.symm;have hr3:=hold.right;have hdis:∀ g,g∈keys ((getT G s1).blocks++(getT G s2).blocks)->g ∉ keys r3:=fun g hg hg3=>by
  have:=hold.nodup;rw [List.map_append,List.nodup_append] at this;exact this.2.2 g hg g hg3 rfl
 have hkG:∀ g,g∈keys ((getT G s1).blocks++(getT G s2).blocks)->g∈keys (Aa0 G):=fun g hg=>(hG.map Prod.fst).mem_iff.1 (by rw [List.map_append];exact List.mem_append_left _ hg);have hkG3:∀ g,g∈keys r3->g∈keys (Aa0 G):=fun g hg=>(hG.map Prod.fst).mem_iff.1 (by rw [List.map_append];exact List.mem_append_right _ hg);have lt3:∀ g,g∈keys r3->g<w.heap.size:=fun g hg=>by
  obtain ⟨b,hb,rfl⟩:=List.mem_map.1 hg;exact hr3.lt hb
 have hnew:BlkOK M' w' ((z1.blocks++z2.blocks)++r3):=by
  constructor
  ·rw [List.map_append,List.nodup_append];refine ⟨hblk.nodup,hr3.nodup,?_⟩;rintro g hg g' hg' rfl;rcases ev.own g hg with k | k
   ·exact hdis g k hg'
   ·have:=lt3 g hg';omega
  ·intro b hb;rcases List.mem_append.1 hb with hb | hb
   ·exact hblk.heap b hb
   ·have hk:b.1∈keys r3:=List.mem_map.2 ⟨b,hb,rfl⟩;rw [ev.out b.1 (lt3 _ hk) fun k=>hdis _ k hk];exact hr3.heap b hb
  ·intro b hb;rcases List.mem_append.1 hb with hb | hb
   ·exact hblk.apart b hb
   ·have hk:b.1∈keys r3:=List.mem_map.2 ⟨b,hb,rfl⟩;cases hM:M' b.1 with
    | none=>rfl
    | some o=>
     rcases ev.memnew b.1 o hM with k | k | k
     ·rw [hr3.apart b hb] at k;cases k
     ·exact absurd hk (hdis _ k)
     ·have:=lt3 _ hk;omega
 have hi:=h.upd2 ev.memle hne h1 h2 v1 v2 (Ahs w1 t1 n1) (Ahs w2 t2 n2) t1 t2 w1 w2 (H':=[]) (by rw [List.append_nil];exact hnew.perm hG2) hmem;have ev':Evo M (keys (Aa0 G)) w M' (keys (Aa0 (Aed (Ad9 s1 s2) (Aa7 (Aa7 G s1 z1) s2 z2)))) w':=by
  rw [Aay]
  exact { ev with
   out:=fun g hg hn=>ev.out g hg fun k=>hn (hkG g k)
   memnew:=fun g o hq=>by
    rcases ev.memnew g o hq with k | k | k
    ·exact .inl k
    ·exact .inr (.inl (hkG g k))
    ·exact .inr (.inr k)
   own:=fun g hg=>by
    have:=(hG2.map Prod.fst).mem_iff.2 hg;rw [List.map_append] at this;rcases List.mem_append.1 this with k | k
    ·rcases ev.own g k with q | q
     ·exact .inl (hkG g q)
     ·exact .inr q
    ·exact .inl (hkG3 g k) }
 exact ⟨M',_,hi,e1.trans ev',ev'.keepX ox⟩
end
section
variable {E:Env} {n:Nat} {F:Fr} {X:List (Nat×Obj)} {Q:Ex->Fr->List (Nat×Obj)->Prop}
end
end Go.Own
namespace Go.Own
open D
def Apj (E:Env) (f v1:Nat) (ds:List D) (c1 c2:D) (v:Value) (o1 o2:D):Prop:=
 ∀ (M:Mem) (w:World) (ts:List T) (y1 y2:T),ts.map T.erase=ds->(∀ t∈ts,t.tidy/\Giv M t)->T.blocksC ts=[]->y1.erase=c1->y2.erase=c2->y1.tidy->y2.tidy->T.wf M y1->T.wf M y2->y1.node=true->y2.node=true ->
  BlkOK M w (y1.blocks++y2.blocks)->Aar M w->Good E M->Does E.P f (T.vals ts++[Value.func (.func v1) #[] [y1.val,y2.val].toArray]).toArray w (Akv M w y1 y2 v o1 o2)
theorem T.vals2 {touts:List T} {y1 y2:T} (h:T.vals touts=T.vals [y1,y2]):∃ z1 z2,touts=[z1,z2]/\z1.val=y1.val/\z2.val=y2.val:=by
 match touts,h with
 | [z1,z2],h=>simp only [T.vals,List.cons.injEq,and_true] at h;exact ⟨z1,z2,rfl,h.1,h.2⟩
 | [],h=>simp [T.vals] at h
 | [_],h=>simp [T.vals] at h
 | _::_::_::_,h=>simp [T.vals] at h
theorem Aur {M:Mem} {t:T} {v:Value} (he:t.erase=.lit v) (ht:t.tidy) (hr:Acp M t):t.val=v/\t.blocks=[]:=by
 cases t with
 | leaf d u=>
  simp only [T.erase] at he;subst he;simp only [Acp,Giv,RI] at hr;exact ⟨hr.1,by simp [T.blocks]⟩
 | _=>simp [T.erase] at he
theorem FnOK.two {E:Env} {f:Nat} {d c1 c2 o1 o2:D} {v:Value} (h:FnOK E f [d,c1,c2] (.lit v) [o1,o2]) (m0:E.mode f 0≠.inout) (m1:E.mode f 1=.inout) (m2:E.mode f 2=.inout) {M:Mem} {w:World} {t y1 y2:T}
  (ht:t.erase=d) (td:t.tidy/\Giv M t) (tb:t.blocks=[]) (e1:y1.erase=c1) (e2:y2.erase=c2) (d1:y1.tidy) (d2:y2.tidy) (w1:T.wf M y1) (w2:T.wf M y2) (n1:y1.node=true) (n2:y2.node=true) (u1:c1≠.undef) (u2:c2≠.undef)
  (hb:BlkOK M w (y1.blocks++y2.blocks)) (hm:Aar M w) (hg:Good E M):Does E.P f [t.val,y1.val,y2.val].toArray w (Akv M w y1 y2 v o1 o2):=by
 have hl:Aav E f 0 [t,y1,y2]=[y1,y2]:=by simp [Aav,m0,m1,m2]
 have hbl:T.blocksC [t,y1,y2]=y1.blocks++y2.blocks:=by simp [T.blocksC,tb]
 have:=h M w [t,y1,y2] (by simp [ht,e1,e2]) (fun x hx=>by
  simp only [List.mem_cons,List.not_mem_nil,or_false] at hx;rcases hx with rfl | rfl | rfl
  ·exact td
  ·exact ⟨d1,Aca w1 (by rw [e1];exact u1)⟩
  ·exact ⟨d2,Aca w2 (by rw [e2];exact u2)⟩) (fun x hx=>by
  rw [hl] at hx;simp only [List.mem_cons,List.not_mem_nil,or_false] at hx;rcases hx with rfl | rfl
  ·exact n1
  ·exact n2) (by rw [hbl];exact hb) hm hg
 refine this.mono ?_;rintro e w' ⟨M',tr,touts,rfl,he,htd,hres,hto,hot,hvals,hblk,hmem,hev⟩;rw [hl] at hvals;obtain ⟨z1,z2,rfl,v1,v2⟩:=T.vals2 hvals;obtain ⟨hv,hbr⟩:=Aur he htd hres;simp only [List.map_cons,List.map_nil,List.cons.injEq,and_true] at hto;have hbo:tr.blocks++T.blocksC [z1,z2]=z1.blocks++z2.blocks:=by simp [T.blocksC,hbr]
 rw [hbo] at hblk hev;rw [hbl] at hev;obtain ⟨a1,a2⟩:=hot z1 (by simp);obtain ⟨b1,b2⟩:=hot z2 (by simp);exact ⟨M',z1,z2,by rw [hv],hto.1,hto.2,a1,b1,a2,b2,v1,v2,hblk,hmem,hev⟩
def Ama (v1:Nat) (ds:List D) (c1 c2:D):Fr:=(ds++[D.fn v1 [.alias (lent (ds.length+1)) [],.alias (lent (ds.length+2)) []]]).zipIdx.map (fun x=>(x.2,x.1))++[(lent (ds.length+1),c1),(lent (ds.length+2),c2)]
def Adc (v1:Nat) (ts:List T) (y1 y2:T):FT:=(ts++[T.leaf (.fn v1 [.alias (lent (ts.length+1)) [],.alias (lent (ts.length+2)) []]) (.func (.func v1) #[] [y1.val,y2.val].toArray)]).zipIdx.map (fun x=>(x.2,x.1))++[(lent (ts.length+1),y1),(lent (ts.length+2),y2)]
theorem Asm:∀ (ts:List T) (i s:Nat) (G:FT),Aaa ((ts.zipIdx i).map (fun x=>(x.2,x.1))++G) s=if i<=s/\s<i+ts.length then ts[s-i]? else Aaa G s
 | [],i,s,G=>by simp only [List.zipIdx_nil,List.map_nil,List.nil_append,List.length_nil];rw [if_neg (by omega)]
 | t::ts,i,s,G=>by
  simp only [List.zipIdx_cons,List.map_cons,List.cons_append,Aaa,List.length_cons];by_cases h:i=s
  ·subst h;rw [if_pos rfl,if_pos (by omega)];simp
  ·rw [if_neg h,Asm ts (i+1) s G];by_cases h2:i+1<=s/\s<i+1+ts.length
   ·rw [if_pos h2,if_pos (by omega),show s-i=(s-(i+1))+1 by omega];simp
   ·rw [if_neg h2,if_neg (by omega)]
theorem Ayw {v1:Nat} {ts:List T} {y1 y2:T} {M:Mem} {w:World} {N:Nat} (hN:ts.length+1<=N) (hN2:N<1000000) (ht:∀ t∈ts,t.tidy/\Giv M t) (hb:T.blocksC ts=[]) (d1:y1.tidy) (d2:y2.tidy) (w1:T.wf M y1) (w2:T.wf M y2) (n1:y1.node=true) (n2:y2.node=true) (g1:Giv M y1) (g2:Giv M y2)
  (hblk:BlkOK M w (y1.blocks++y2.blocks)) (hm:Aar M w) :
  Inv N (fun s=>if s=lent (ts.length+1) then y1.val else if s=lent (ts.length+2) then y2.val else noT.val) M (Ama v1 (ts.map T.erase) y1.erase y2.erase) (Adc v1 ts y1 y2) []
   {tmps:=(T.vals ts++[Value.func (.func v1) #[] [y1.val,y2.val].toArray]).toArray++Array.replicate (N-(T.vals ts++[Value.func (.func v1) #[] [y1.val,y2.val].toArray]).toArray.size) undef,defers:=[] } w:=by
 have hlen:(T.vals ts).length=ts.length:=by rw [T.vals_eq,List.length_map]
 have hf:∀ s,Aaa (Adc v1 ts y1 y2) s=if s<ts.length then ts[s]? else if s=ts.length then some (.leaf (.fn v1 [.alias (lent (ts.length+1)) [],.alias (lent (ts.length+2)) []]) (.func (.func v1) #[] [y1.val,y2.val].toArray)) else if s=lent (ts.length+1) then some y1 else if s=lent (ts.length+2) then some y2 else none:=fun s=>by
  unfold Adc;rw [Asm];simp only [List.length_append,List.length_singleton,Nat.zero_le,true_and,Nat.zero_add,Nat.sub_zero];by_cases h:s<ts.length
  ·rw [if_pos (by omega),if_pos h,List.getElem?_append_left h]
  ·rw [if_neg h];by_cases h2:s=ts.length
   ·subst h2;rw [if_pos (by omega),if_pos rfl];simp
   ·rw [if_neg (by omega),if_neg h2];simp only [Aaa];by_cases h3:lent (ts.length+1)=s
    ·rw [if_pos h3,if_pos h3.symm]
    ·rw [if_neg h3,if_neg (Ne.symm h3)];by_cases h4:lent (ts.length+2)=s
     ·rw [if_pos h4,if_pos h4.symm]
     ·rw [if_neg h4,if_neg (Ne.symm h4)]
 have f1:getT (Adc v1 ts y1 y2) (lent (ts.length+1))=y1:=by
  unfold getT;rw [hf,if_neg (by unfold lent;omega),if_neg (by unfold lent;omega),if_pos rfl];rfl
 have f2:getT (Adc v1 ts y1 y2) (lent (ts.length+2))=y2:=by
  unfold getT;rw [hf,if_neg (by unfold lent;omega),if_neg (by unfold lent;omega),if_neg (by unfold lent;omega),if_pos rfl];rfl
 have hfn:Aao M (Adc v1 ts y1 y2) (.leaf (.fn v1 [.alias (lent (ts.length+1)) [],.alias (lent (ts.length+2)) []]) (.func (.func v1) #[] [y1.val,y2.val].toArray)):=
  ⟨[y1.val,y2.val],rfl,.cons ⟨y1,by rw [f1];simp [T.getP],n1,rfl⟩ (.cons ⟨y2,by rw [f2];simp [T.getP],n2,rfl⟩ .nil)⟩
 have hc:∀ s t,Aaa (Adc v1 ts y1 y2) s=some t->(s<ts.length/\ts[s]? = some t)∨(s=ts.length/\t=.leaf (.fn v1 [.alias (lent (ts.length+1)) [],.alias (lent (ts.length+2)) []]) (.func (.func v1) #[] [y1.val,y2.val].toArray))∨(s=lent (ts.length+1)/\t=y1)∨(s=lent (ts.length+2)/\t=y2):=fun s t h=>by
  rw [hf] at h
  split at h
  ·rename_i h1;exact .inl ⟨h1,h⟩
  ·split at h
   ·rename_i h1;simp only [zJ] at h;exact .inr (.inl ⟨h1,h.symm⟩)
   ·split at h
    ·rename_i h1;simp only [zJ] at h;exact .inr (.inr (.inl ⟨h1,h.symm⟩))
    ·split at h
     ·rename_i h1;simp only [zJ] at h;exact .inr (.inr (.inr ⟨h1,h.symm⟩))
     ·cases h
 have htm:∀ (j:Nat) (v:Value),(T.vals ts++[Value.func (.func v1) #[] [y1.val,y2.val].toArray])[j]? = some v->((T.vals ts++[Value.func (.func v1) #[] [y1.val,y2.val].toArray]).toArray++Array.replicate (N-(T.vals ts++[Value.func (.func v1) #[] [y1.val,y2.val].toArray]).toArray.size) undef)[j]? = some v:=fun j v hj=>by
  have hlt:=(List.getElem?_eq_some_iff.1 hj).1;rw [Array.getElem?_append_left (by simpa using hlt)];simpa using hj
 constructor
 ·unfold Adc Ama Acd;rw [List.map_append,List.map_map,List.length_map];congr 1;rw [show ts.map T.erase++[D.fn v1 [.alias (lent (ts.length+1)) [],.alias (lent (ts.length+2)) []]]=(ts++[T.leaf (.fn v1 [.alias (lent (ts.length+1)) [],.alias (lent (ts.length+2)) []]) (.func (.func v1) #[] [y1.val,y2.val].toArray)]).map T.erase by simp [T.erase]];rw [List.zipIdx_map,List.map_map];rfl
 ·simp [hlen];omega
 ·rfl
 ·intro s t h;rcases hc s t h with ⟨h1,h2⟩ | ⟨h1,rfl⟩ | ⟨rfl,rfl⟩ | ⟨rfl,rfl⟩
  ·rw [if_pos (by omega)];refine htm s _ ?_;rw [List.getElem?_append_left (by omega),T.vals_eq,List.getElem?_map,h2];rfl
  ·subst h1;rw [if_pos (by omega)];refine htm _ _ ?_;rw [List.getElem?_append_right (by omega),hlen];simp [T.val]
  ·rw [if_neg (by unfold lent;omega)];simp
  ·rw [if_neg (by unfold lent;omega),if_neg (by unfold lent;omega)];simp
 ·intro s t h;rcases hc s t h with ⟨h1,h2⟩ | ⟨h1,rfl⟩ | ⟨rfl,rfl⟩ | ⟨rfl,rfl⟩
  ·exact (ht t (List.mem_of_getElem? h2)).1
  ·simp [T.tidy]
  ·exact d1
  ·exact d2
 ·intro s t h;rcases hc s t h with ⟨h1,h2⟩ | ⟨h1,rfl⟩ | ⟨rfl,rfl⟩ | ⟨rfl,rfl⟩
  ·exact Abj (ht t (List.mem_of_getElem? h2)).2
  ·exact hfn
  ·exact Abj g1
  ·exact Abj g2
 ·have:Aa0 (Adc v1 ts y1 y2)=y1.blocks++y2.blocks:=by
   have hz:∀ (l:List T) (i:Nat),Aa0 ((l.zipIdx i).map fun x=>(x.2,x.1))=T.blocksC l:=by
    intro l
    induction l with
    | nil=>intro i;rfl
    | cons t l ih=>intro i;simp only [List.zipIdx_cons,List.map_cons,T.blocksC];rw [← ih (i+1)];simp [Aa0]
   unfold Adc;have hap:∀ A B:FT,Aa0 (A++B)=Aa0 A++Aa0 B:=fun A B=>by simp [Aa0]
   rw [hap,hz,T.blocksC_append,hb];simp [Aa0,T.blocksC,T.blocks]
  rw [this,List.append_nil];exact hblk
 ·exact hm
theorem Arb {v1:Nat} {ts:List T} {y1 y2:T} (hb:T.blocksC ts=[]):Aa0 (Adc v1 ts y1 y2)=y1.blocks++y2.blocks:=by
 have hz:∀ (l:List T) (i:Nat),Aa0 ((l.zipIdx i).map fun x=>(x.2,x.1))=T.blocksC l:=by
  intro l
  induction l with
  | nil=>intro i;rfl
  | cons t l ih=>intro i;simp only [List.zipIdx_cons,List.map_cons,T.blocksC];rw [← ih (i+1)];simp [Aa0]
 have hap:∀ A B:FT,Aa0 (A++B)=Aa0 A++Aa0 B:=fun A B=>by simp [Aa0]
 unfold Adc;rw [hap,hz,T.blocksC_append,hb];simp [Aa0,T.blocksC,T.blocks]
def Ai6 (E:Env) (fd:Func) (n:Nat) (v:Value) (o1 o2:D):Ex->Fr->Prop
 | .exit _,_=>False
 | _,F=>∃ F2,Ad8 E F fd.results.toList=some ([.lit v],F2)/\get F2 (lent (n+1))=o1/\get F2 (lent (n+2))=o2
theorem Bap {E : Env} {f : Nat} {fd : Func} {c : Code} {v1 : Nat} {ds : List D} {c1 c2 o1 o2 : D} {v : Value} {V : List Nat} (hf : E.P.funcs[f]? = some fd) (hn : (fd.name == "runtime.NumGoroutine") = false) (hb : fd.body = some c) (hfit : Ac9 fd.ntmps c) (hres : ∀ r ∈ fd.results.toList, Ag3 fd.ntmps r)
  (hV:V.Nodup) (hlen:ds.length+1<=fd.ntmps/\fd.ntmps<1000000) (u1:c1≠.undef) (u2:c2≠.undef) (n1:o1.node1=true) (n2:o2.node1=true) (hx:ToM E fd.ntmps c (norm V (Ama v1 ds c1 c2)) (Ai6 E fd ds.length v o1 o2)):Apj E f v1 ds c1 c2 v o1 o2:=by
 intro M w ts y1 y2 hts htg htb e1 e2 d1 d2 w1 w2 m1 m2 hblk hmem hgd;subst e1 e2;have hl:ds.length=ts.length:=by rw [← hts,List.length_map]
 unfold Does;rw [Ais hf hn hb];simp only;refine calls_of_wp hf hb ?_;have h0:=Ayw (v1:=v1) (N:=fd.ntmps) (by omega) hlen.2 htg htb d1 d2 w1 w2 m1 m2 (Aca w1 u1) (Aca w2 u2) hblk hmem;rw [hts] at h0;have hp0:Post fd.ntmps (fun s=>if s=lent (ts.length+1) then y1.val else if s=lent (ts.length+2) then y2.val else noT.val) M (keys (y1.blocks++y2.blocks)) w (Ama v1 ds y1.erase y2.erase) _ w:=⟨M,_,h0,Evo.refl' M w (fun g hg=>by rw [Arb htb] at hg;exact hg)⟩
 have leave:∀ (F:Fr) (a':Act) (w':World),(∃ F2,Ad8 E F fd.results.toList=some ([.lit v],F2)/\get F2 (lent (ds.length+1))=o1/\get F2 (lent (ds.length+2))=o2)->Post fd.ntmps (fun s=>if s=lent (ts.length+1) then y1.val else if s=lent (ts.length+2) then y2.val else noT.val) M (keys (y1.blocks++y2.blocks)) w F a' w' ->
   a'.defers=[]/\∃ v',(results fd a'.tmps).run E.P w'=.ok v' w'/\Akv M w y1 y2 v o1 o2 (.returned v') w':=by
  rintro F a' w' ⟨F2,hr,rfl,rfl⟩ ⟨M',G',i1,ev⟩;refine ⟨i1.defers,?_⟩;obtain ⟨rts,G2,b1,b2,b3,b4,b5,b6⟩:=Ak3 _ i1 hres hr;refine ⟨_,Aoi b2,?_⟩;obtain ⟨t,rfl⟩:∃ t,rts=[t]:=by
   match rts,b1 with
   | [t],_=>exact ⟨t,rfl⟩
   | [],b1=>simp at b1
   | _::_::_,b1=>simp at b1
  simp only [List.map_cons,List.map_nil,List.cons.injEq,and_true] at b1;have hg:=b4 t (by simp);have hrt:Acp M' t:=by cases t<;>first | exact hg | exact hg.elim
  obtain ⟨hv,hbt⟩:=Aur b1 b3.1 hrt;have hS:∀ s y,(s=lent (ts.length+1)/\y=y1∨s=lent (ts.length+2)/\y=y2)->(get F2 s).node1=true->(getT G2 s).tidy/\T.wf M' (getT G2 s)/\(getT G2 s).val=y.val:=fun s y hs hnd=>by
   rw [b5.get] at hnd;have htd:=b5.tidyG s;have hok:=b5.okG s;have hnode:(getT G2 s).node=true/\T.wf M' (getT G2 s):=by
    cases hg:getT G2 s with
    | leaf d v=>
     rw [hg] at hnd htd hok;cases d<;>simp_all [T.erase,D.node1,T.tidy,T.node]
     ·exact .inr hok
     ·exact .inr hok
    | agg=>rw [hg] at hnd;simp [T.erase,D.node1] at hnd
    | tup=>rw [hg] at hnd;simp [T.erase,D.node1] at hnd
    | own=>rw [hg] at hok;exact ⟨rfl,hok⟩
    | nil=>exact ⟨rfl,by simp [T.wf]⟩
    | box=>rw [hg] at hok;exact ⟨rfl,hok⟩
    | map=>rw [hg] at hok;exact ⟨rfl,hok⟩
    | bld=>rw [hg] at hok;exact ⟨rfl,hok⟩
   refine ⟨htd,hnode.2,?_⟩;have hfd:=Aaz (G:=G2) (s:=s) (ps:=[]) (x:=getT G2 s) rfl hnode.1;have:=b5.vals s _ hfd;rcases hs with ⟨rfl,rfl⟩ | ⟨rfl,rfl⟩
   ·rw [if_neg (by unfold lent;omega),if_pos rfl] at this;exact this.symm
   ·rw [if_neg (by unfold lent;omega),if_neg (by unfold lent;omega),if_pos rfl] at this;exact this.symm
  rw [hl] at n1 n2;obtain ⟨p1,p2,p3⟩:=hS _ y1 (.inl ⟨rfl,rfl⟩) n1;obtain ⟨q1,q2,q3⟩:=hS _ y2 (.inr ⟨rfl,rfl⟩) n2;obtain ⟨rest,hp⟩:=Af4 [lent (ts.length+1),lent (ts.length+2)] G2 (by simp [lent]);simp only [List.flatMap_cons,List.flatMap_nil,List.append_nil] at hp;have hpp:((getT G2 (lent (ts.length+1))).blocks++(getT G2 (lent (ts.length+2))).blocks++rest).Perm (Aa0 G2++(T.blocksC [t]++[])):=by
   simp only [T.blocksC,hbt,List.append_nil];exact hp
  refine ⟨M',getT G2 (lent (ts.length+1)),getT G2 (lent (ts.length+2)),by simp [T.vals,oneV,hv],?_,?_,p1,q1,p2,q2,p3,q3,b5.blk.sub_perm hpp,b5.mem,ev.weaken fun g hg=>?_⟩
  ·rw [hl];exact (b5.get _).symm
  ·rw [hl];exact (b5.get _).symm
  ·have h1:=(hpp.map Prod.fst).mem_iff.1 (by rw [List.map_append];exact List.mem_append_left _ hg);have h2:=b6 g h1;simpa [keys] using h2
 refine hx _ _ _ _ _ _ _ hfit hgd (hp0.norm hV) fun e F a' w' q hp=>?_;cases e with
 | normal=>exact leave F a' w' q hp
 | ret=>exact leave F a' w' q hp
 | exit id=>exact q.elim
end Go.Own
namespace Go.Own
open D
section
variable {P:Program} {ops:Array Oper} {Q:Exit->Act->World->Prop}
theorem Ar6:∀ (fuel:Nat) (listed:Array Bool) (a:Act) (w:World),wpAny P .any ops Q fuel listed a w->wpAny P .any ops Q (fuel+1) listed a w
 | 0,_,_,_,h=>⟨fun _=>h.2,fun i hi=>by rw [h.1] at hi;cases hi⟩
 | fuel+1,_,_,_,h=>⟨h.1,fun i hi=>wpOp_mono (fun a w=>Ar6 fuel _ a w) (h.2 i hi)⟩
theorem Ata {fuel:Nat} {listed:Array Bool} {a:Act} {w:World} (h:wpAny P .any ops Q fuel listed a w):∀ k,wpAny P .any ops Q (fuel+k) listed a w
 | 0=>h
 | k+1=>Ar6 _ _ _ _ (Ata h k)
def upK (n k:Nat):Array Bool:=(Array.range n).map fun i=>decide (i<k)
theorem Apg {n k:Nat}:(upK n k).size=n:=by simp [upK]
theorem Ba1 {n k i:Nat} (h:i<n):inL (upK n k) i=decide (i<k):=by
 unfold inL upK;simp [Array.getD,h]
theorem Ava {n k:Nat} {l:Array Bool} (hs:l.size=n) (h:∀ i,i<n->inL l i=decide (i<k)):l=upK n k:=by
 apply Array.ext
 ·rw [hs,Apg]
 ·intro i h1 h2;have e1:=h i (by omega);have e2:=Ba1 (k:=k) (show i<n by omega);unfold inL at e1 e2;simp only [Array.getD,h1,h2,dif_pos] at e1 e2;rw [show l[i]=l.getInternal i h1 from rfl,e1,← e2];rfl
def seqB (ops:Array Oper) (k:Nat):Bool:=((List.range' k (ops.size-k)).all fun j=>Region.ready .any ops (upK ops.size j) == [j])&&(Region.ready .any ops (upK ops.size ops.size) == [])
theorem Atb {k:Nat} (h:seqB ops k=true):∀ (m j:Nat) {a:Act} {w:World},j+m=ops.size->k<=j->wpOps P ops Q (List.range' j m) a w->wpAny P .any ops Q m (upK ops.size j) a w
 | 0,j,a,w,hj,hk,hw=>by
  unfold seqB at h;simp only [Bool.and_eq_true,beq_iff_eq] at h;have:j=ops.size:=by omega
  subst this;exact ⟨h.2,hw⟩
 | m+1,j,a,w,hj,hk,hw=>by
  have hr:Region.ready .any ops (upK ops.size j)=[j]:=by
   have h':=h;unfold seqB at h';simp only [Bool.and_eq_true,List.all_eq_true,beq_iff_eq] at h';exact h'.1 j (by rw [List.mem_range'_1];omega)
  refine ⟨fun hn=>(by rw [hr] at hn;cases hn),fun i hi=>?_⟩;rw [hr,List.mem_singleton] at hi;subst hi;rw [List.range'_succ,wpOps_cons] at hw;refine wpOp_mono (fun a w hw'=>?_) hw;have e:(upK ops.size i).setIfInBounds i true=upK ops.size (i+1):=Ava (by rw [Array.size_setIfInBounds,Apg]) fun q hq=>by
   rw [Ae1 (by rw [Apg];omega),Ba1 hq];by_cases h1:q=i
   ·subst h1;simp
   ·have h2:(q == i)=false:=by simpa using h1
    rw [h2,Bool.or_false,decide_eq_decide];omega
  rw [e];exact Atb h m (i+1) (by omega) (by omega) hw'
theorem Oper.wp_exits {Q':Exit->Act->World->Prop} (hq:∀ e a w,e≠.normal->Q e a w->Q' e a w) {o:Oper} {a:Act} {w:World} {K:Act->World->Prop} (h:o.wp P a w K Q):o.wp P a w K Q':=by
 unfold Oper.wp at *;generalize (execOp a.eval o).run P w=r at *;cases r with
 | ok n w'=>
  cases n<;>simp only [Oper.upon] at h ⊢ <;>
   first
    | exact h
    | exact Calls.mono h (fun e w'' he=>by
      cases e
      ·exact he
      ·exact hq _ _ _ (by simp) he
      ·obtain ⟨a',w1,h1⟩:=he;exact ⟨a',w1,hq _ _ _ (by simp) h1⟩)
 | halt x w'=>
  cases x<;>simp only [Oper.upon] at h ⊢<;>first | exact h | exact hq _ _ _ (by simp) h
def cutQ (P:Program) (ops:Array Oper) (Q:Exit->Act->World->Prop) (k m:Nat):Exit->Act->World->Prop
 | .normal,a,w=>wpAny P .any ops Q m (upK ops.size k) a w
 | e,a,w=>Q e a w
theorem Apv {k m:Nat}:∀ e a w,e≠.normal->cutQ P ops Q k m e a w->Q e a w:=fun e a w hn h=>by
 cases e<;>first | exact absurd rfl hn | exact h
def Auy (ops:Array Oper):Bool:=ops.toList.all fun o=>o.guard.isNone
def cutB (ops:Array Oper) (k:Nat):Bool:=(List.range ops.size).all fun i=>Nat.blt i k || (List.range k).all fun j=>Abn ops ops.size j i
theorem Akd {k i:Nat} (hk:k<=ops.size):(ops.extract 0 k)[i]? = if i<k then ops[i]? else none:=by
 rw [Array.getElem?_extract];simp only [Nat.zero_add,Nat.sub_zero,Nat.min_eq_left hk]
theorem Akf {listed:Array Bool} {k i:Nat} (hk:k<=listed.size):inL (listed.extract 0 k) i=(decide (i<k)&&inL listed i):=by
 unfold inL;rw [Array.getD_eq_getD_getElem?,Array.getD_eq_getD_getElem?,Array.getElem?_extract];simp only [Nat.zero_add,Nat.sub_zero,Nat.min_eq_left hk];by_cases h:i<k
 ·simp [h]
 ·simp [h]
theorem Ba7 {k m:Nat} (hk:k<=ops.size) (hg:Auy ops=true) (hb:Aeu ops=true) (hc:cutB ops k=true):∀ (fuel:Nat) {listed:Array Bool} {a:Act} {w:World},listed.size=ops.size->(∀ i,k<=i->inL listed i=false)->Ak6 ops listed ->
  wpAny P .any (ops.extract 0 k) (cutQ P ops Q k m) fuel (listed.extract 0 k) a w->wpAny P .any ops Q (fuel+m) listed a w:=by
 have hsz:(ops.extract 0 k).size=k:=by simp;omega
 intro fuel
 induction fuel with
 | zero=>
  intro listed a w hs hhi hcl h;have hls:(listed.extract 0 k).size=(ops.extract 0 k).size:=by simp;omega
  have hall:∀ i,i<k->inL listed i=true:=by
   intro i
   induction i using Nat.strongRecOn with
   | ind i ih=>
    intro hi;cases hin:inL listed i with
    | true=>rfl
    | false=>
     have hlt:i<ops.size:=by omega
     have:i∈Region.ready .any (ops.extract 0 k) (listed.extract 0 k):=by
      rw [Ado hls];refine ⟨ops[i],by rw [Akd hk,if_pos hi,Array.getElem?_eq_getElem hlt],by rw [Akf (by omega),hin,Bool.and_false],fun ed hed hbd=>?_⟩;have hbk:=List.all_eq_true.1 hb i (List.mem_range.2 hlt);rw [Array.getElem?_eq_getElem hlt] at hbk;simp only [List.all_eq_true] at hbk;have:=hbk ed (by simpa using hed);simp only [hbd,Bool.not_true,Bool.false_or,decide_eq_true_eq] at this;rw [Akf (by omega),ih _ this (by omega),Bool.and_true,decide_eq_true_eq];omega
     rw [h.1] at this;cases this
  have e:listed=upK ops.size k:=Ava hs fun i hi=>by
   by_cases h1:i<k
   ·rw [hall i h1,decide_eq_true h1]
   ·rw [hhi i (by omega),decide_eq_false h1]
  rw [e,Nat.zero_add];exact h.2
 | succ fuel ih=>
  intro listed a w hs hhi hcl h;have hls:(listed.extract 0 k).size=(ops.extract 0 k).size:=by simp;omega
  by_cases hall:∀ i,i<k->inL listed i=true
  ·have e:listed=upK ops.size k:=Ava hs fun i hi=>by
    by_cases h1:i<k
    ·rw [hall i h1,decide_eq_true h1]
    ·rw [hhi i (by omega),decide_eq_false h1]
   have hn:Region.ready .any (ops.extract 0 k) (listed.extract 0 k)=[]:=by
    rw [List.eq_nil_iff_forall_not_mem];intro i hi;obtain ⟨o,ho,h1,_⟩:=(Ado hls).1 hi;rw [Akd hk] at ho
    split at ho
    ·rename_i hik;rw [Akf (by omega),hall i hik,decide_eq_true hik] at h1;cases h1
    ·cases ho
   have:=h.1 hn;rw [e,Nat.add_comm];exact Ata (show wpAny P .any ops Q m (upK ops.size k) a w from this) (fuel+1)
  ·
   have back:∀ i,i<ops.size->∀ o,ops[i]? = some o->∀ ed∈o.after,Region.binds .any ed=true->ed.on<i:=fun i hi o ho ed hed hbd=>by
    have hbk:=List.all_eq_true.1 hb i (List.mem_range.2 hi);rw [ho] at hbk;simp only [List.all_eq_true] at hbk;have:=hbk ed (by simpa using hed);simpa only [hbd,Bool.not_true,Bool.false_or,decide_eq_true_eq] using this
   have hready:∀ i∈Region.ready .any ops listed,i<k/\i∈Region.ready .any (ops.extract 0 k) (listed.extract 0 k):=fun i hi=>by
    obtain ⟨o,ho,hni,hpre⟩:=(Ado hs).1 hi;have hio:=(Array.getElem?_eq_some_iff.1 ho).1;have hik:i<k:=by
     rcases Nat.lt_or_ge i k with h1 | h1
     ·exact h1
     ·exfalso;apply hall;intro j hj;have:=List.all_eq_true.1 hc i (List.mem_range.2 hio);have hnb:Nat.blt i k=false:=by
       cases hq:Nat.blt i k with
       | false=>rfl
       | true=>exact absurd (Nat.le_of_ble_eq_true hq) (by omega)
      rw [hnb,Bool.false_or,List.all_eq_true] at this;exact Ae3 hcl ops.size j i o ho hpre (this j (List.mem_range.2 hj))
    refine ⟨hik,(Ado hls).2 ⟨o,by rw [Akd hk,if_pos hik];exact ho,by rw [Akf (by omega),hni,Bool.and_false],fun ed hed hbd=>?_⟩⟩;have:=back i hio o ho ed hed hbd;rw [Akf (by omega),hpre ed hed hbd,Bool.and_true,decide_eq_true_eq];omega
   rw [show fuel+1+m=fuel+m+1 by omega];refine ⟨fun hn=>?_,fun i hi=>?_⟩
   ·exfalso;apply hall;intro i
    induction i using Nat.strongRecOn with
    | ind i ihh=>
     intro hi;cases hin:inL listed i with
     | true=>rfl
     | false=>
      have hlt:i<ops.size:=by omega
      have:i∈Region.ready .any ops listed:=by
       rw [Ado hs];refine ⟨ops[i],Array.getElem?_eq_getElem hlt,hin,fun ed hed hbd=>?_⟩;have:=back i hlt _ (Array.getElem?_eq_getElem hlt) ed hed hbd;exact ihh _ this (by omega)
      rw [hn] at this;cases this
   ·obtain ⟨hik,hi2⟩:=hready i hi;obtain ⟨o,ho,hni,hpre⟩:=(Ado hs).1 hi;have hio:=(Array.getElem?_eq_some_iff.1 ho).1;have h2:=h.2 i hi2;have hcut:(ops.extract 0 k)[i]? = some o:=by rw [Akd hk,if_pos hik];exact ho
    have hgo:o.guard=none:=by
     have:=List.all_eq_true.1 hg o (by simpa using Array.mem_of_getElem? ho);simpa using this
    have hset:(listed.extract 0 k).setIfInBounds i true=(listed.setIfInBounds i true).extract 0 k:=by
     apply Array.ext_getElem?;intro q;rw [Array.getElem?_setIfInBounds,Array.getElem?_extract,Array.getElem?_extract,Array.getElem?_setIfInBounds];simp only [Array.size_extract,Nat.zero_add,Nat.sub_zero,Array.size_setIfInBounds,Nat.min_eq_left (show k<=listed.size by omega)];by_cases hq:i=q
     ·subst hq;simp only [if_true,hik,if_pos];rw [if_pos (by omega)]
     ·simp only [if_neg hq]
    rw [hset] at h2;have hw1:Region.wanted o (yielded (ops.extract 0 k) a.tmps)=true:=by unfold Region.wanted;rw [hgo]
    have hw2:Region.wanted o (yielded ops a.tmps)=true:=by unfold Region.wanted;rw [hgo]
    unfold wpOp at h2 ⊢;simp only [hcut,hw1,if_true] at h2;simp only [ho,hw2,if_true];have hcl':Ak6 ops (listed.setIfInBounds i true):=by
     intro q ok hq hkin ed hed hbd;rw [Ae1 (by omega)] at hkin ⊢;simp only [Bool.or_eq_true,beq_iff_eq] at hkin ⊢;rcases hkin with hkin | rfl
     ·exact .inl (hcl q ok hq hkin ed hed hbd)
     ·rw [ho] at hq;cases hq;exact .inl (hpre ed hed hbd)
    have next:∀ a w,wpAny P .any (ops.extract 0 k) (cutQ P ops Q k m) fuel ((listed.setIfInBounds i true).extract 0 k) a w->wpAny P .any ops Q (fuel+m) (listed.setIfInBounds i true) a w:=fun a w hh=>ih (by rw [Array.size_setIfInBounds];exact hs) (fun q hq=>by
     rw [Ae1 (by omega),hhi q hq];have:(q == i)=false:=by simp;omega
     rw [this];rfl) hcl' hh
    rcases h2 with h2 | ⟨h2,h3⟩
    ·exact .inl (Oper.wp_exits Apv (Oper.wp_mono next h2))
    ·obtain ⟨a',w',h4⟩:=h3;exact .inr ⟨h2,a',w',Apv _ _ _ (by simp) h4⟩
end
section
variable {E:Env} {n f:Nat} {V:List Nat} {F Fend:Fr} {X:List (Nat×Obj)} {Q:Ex->Fr->List (Nat×Obj)->Prop} {call:Nat->List D->Option (D×List D)}
theorem ToMX.cut (hcall:Abq E call) (hm:E.P.follows .mixedOrders=true) (f:Nat) (V:List Nat) {id:Nat} {ops:Array Oper} (k:Nat) (hk:Nat.ble k ops.size=true) (hg:Auy ops=true) (hb:Aeu ops=true) (hc:cutB ops k=true) (hb2:Aeu (ops.extract 0 k)=true) (hs:seqB ops k=true)
  (Fend:Fr) (hd:Abz E f V call (ops.extract 0 k) (List.range (ops.extract 0 k).size) [] (Abc F (ops.extract 0 k).toList)=some Fend) (h:WX E n ops (List.range' k (ops.size-k)) Fend X Q):ToMX E n (.region id ops true) F X Q:=by
 have hk:=Nat.le_of_ble_eq_true hk;have hsz:(ops.extract 0 k).size=k:=by simp;omega
 intro R M B w0 a w Qw hf hgd ⟨M1,G1,i1,e1,ox⟩ hQ;refine wp_region_any hm ?_;have hfit2:Aeq n (ops.extract 0 k):=fun i o ho=>by
  rw [Akd hk] at ho
  split at ho
  ·exact hf i o ho
  ·cases ho
 have hp:Post n R M1 (keys (Aa0 G1)) w F a w:=⟨M1,G1,i1,Evo.refl M1 _ w⟩
 have h2:Post n R M1 (keys (Aa0 G1)) w (Abc F (ops.extract 0 k).toList) a { w with drawn:=w.drawn+1 }:=by
  obtain ⟨M1',G1',h1,e1'⟩:=Afy (ops.extract 0 k).toList (fun o ho t ht=>by
   obtain ⟨i,hi,rfl⟩:=List.getElem_of_mem ho
   exact (hfit2 i _ (by rw [Array.getElem?_eq_getElem (by simpa using hi)];simp)).2 t ht) hp
  exact ⟨M1',G1',h1.heapEq rfl,e1'.heapEq rfl rfl rfl rfl⟩
 have hgd1:=hgd.mono e1.memle;have hle:∀ {o:Oper} {A:Fr} {d:D} {ops:Array Oper},Aak E f Ag7 ops A o=some d->Aak E f call ops A o=some d:=fun h=>Aiq (fun _ _ _ h=>by cases h) h;have hempty:Stretch E f V call (ops.extract 0 k) (Abc F (ops.extract 0 k).toList) 0 [] []:=⟨by simp,⟨by simp,by simp⟩,List.Pairwise.nil,by simp,by simp,by simp,List.Pairwise.nil,List.Pairwise.nil⟩
 obtain ⟨e,rs,blk,hst,he,hset,_,hex,hend⟩:=Afp (E:=E) (f:=f) (V:=V) (call:=call) (ops:=ops.extract 0 k) (F:=Abc F (ops.extract 0 k).toList) hle (ops.extract 0 k).size 0 (rs:=[]) (blk:=[]) (by omega) hempty (by simpa [appL,List.range_eq_range'] using hd);have hrep:∀ m i,inL (Array.replicate m false) i=false:=fun m i=>by
  unfold inL;simp only [Array.getD_eq_getD_getElem?,Array.getElem?_replicate]
  split<;>rfl
 have hcut:=Ba7 (P:=E.P) (ops:=ops) (Q:=Qw) (k:=k) (m:=ops.size-k) hk hg hb hc k (listed:=Array.replicate ops.size false) (a:=a) (w:={ w with drawn:=w.drawn+1 }) (by simp) (fun i _=>hrep _ i) (fun i o _ hi=>by rw [hrep] at hi;cases hi) ?_
 ·rw [show k+(ops.size-k)=ops.size by omega] at hcut;exact hcut
 have hext:(Array.replicate ops.size false).extract 0 k=Array.replicate k false:=by
  apply Array.ext_getElem?;intro q;rw [Array.getElem?_extract,Array.getElem?_replicate,Array.getElem?_replicate];simp only [Array.size_replicate,Nat.zero_add,Nat.sub_zero,Nat.min_eq_left hk];by_cases hq:q<k
  ·rw [if_pos hq,if_pos hq,if_pos (by omega)]
  ·rw [if_neg hq,if_neg hq]
 rw [hext];refine Asc (R:=R) (B:=keys (Aa0 G1)) (w0:=w) hle hcall hgd1 hfit2 hb2 (Fend:=Fend) (fun a' w' hp'=>?_) k (by simp;omega) ?_ (fun i o _ hi=>by rw [hrep] at hi;cases hi) (fun j hj=>by rcases hset j hj with h | h;omega;exact .inr h) hst he (fun i hi=>by rw [hrep] at hi;cases hi) hend ?_
 ·obtain ⟨M2,G2,i2,e2⟩:=hp';exact Atb hs (ops.size-k) k (by omega) (Nat.le_refl k) (h R M B w0 a' w' Qw hf hgd ⟨M2,G2,i2,e1.trans e2,e2.keepX ox⟩ hQ)
 ·unfold left;have:=List.length_filter_le (fun i=>!inL (Array.replicate k false) i) (List.range (ops.extract 0 k).size);rw [List.length_range] at this;omega
 ·have:appL (inL (Array.replicate k false)) rs (Abc F (ops.extract 0 k).toList)=Abc F (ops.extract 0 k).toList:=Aot fun y _=>hrep k y.1;rw [this];exact h2
end
end Go.Own
namespace Go.Own
open D
section
variable {E:Env} {n:Nat} {R:Nat->Value} {M:Mem} {F:Fr} {G:FT} {a:Act} {w:World} {X:List (Nat×Obj)} {Q:Ex->Fr->List (Nat×Obj)->Prop}
def Anf (E:Env) (n:Nat) (F:Fr):List Operand->List D->Prop
 | [],[]=>True
 | x::xs,d::ds=>(Fits n x/\∃ d0,opd E F x=some d0/\snapD F d0=some d/\d0.ats=[])/\Anf E n F xs ds
 | _,_=>False
theorem Aml (h:Inv n R M F G [] a w):∀ {xs:List Operand} {ds:List D},Anf E n F xs ds->∃ ts:List T,ts.map T.erase=ds/\T.vals ts=xs.map a.eval/\(∀ t∈ts,t.tidy/\Giv M t)/\T.blocksC ts=[]/\∀ t∈ts,t.blocks=[]
 | [],[],_=>⟨[],rfl,rfl,by simp,rfl,by simp⟩
 | [],_::_,hx=>hx.elim
 | _::_,[],hx=>hx.elim
 | x::xs,d::ds,⟨⟨h1,d0,h2,h3,h4⟩,hx⟩=>by
  obtain ⟨ts,a1,a2,a3,a4,a5⟩:=Aml h hx;obtain ⟨t,b1,b2,b3,b4,b5⟩:=snapD_ok h (Mem.le_refl M) (h.opd h1 h2) h3 (fun p hp=>by rw [h4] at hp;cases hp);refine ⟨t::ts,by rw [List.map_cons,b1,a1],by simp only [T.vals,List.map_cons,b2,a2],fun q hq=>?_,by simp only [T.blocksC,b5,a4,List.append_nil],fun q hq=>?_⟩
  ·rcases List.mem_cons.1 hq with rfl | hq
   ·exact ⟨b3,b4⟩
   ·exact a3 q hq
  ·rcases List.mem_cons.1 hq with rfl | hq
   ·exact b5
   ·exact a5 q hq
theorem Awf (h:Inv n R M F G [] a w) {y:Operand} (hf:Fits n y) {v1 s1 s2:Nat} (hy:opd E F y=some (.fn v1 [.alias s1 [],.alias s2 []])):(getT G s1).node=true/\(getT G s2).node=true/\a.eval y=.func (.func v1) #[] [(getT G s1).val,(getT G s2).val].toArray:=by
 obtain ⟨vs,h1,h2⟩:=h.opd hf hy;cases h2 with
 | cons q1 q2=>
  cases q2 with
  | cons q2 q3=>
   cases q3;obtain ⟨x1,p1,p2,p3⟩:=q1;obtain ⟨x2,r1,r2,r3⟩:=q2;simp only [T.getP,zJ] at p1 r1;subst p1 r1;exact ⟨p2,r2,by rw [h1,p3,r3]⟩
theorem node_wf (h:Inv n R M F G [] a w) {s:Nat} (hn:(getT G s).node=true):(getT G s).tidy/\T.wf M (getT G s):=⟨h.tidyG s,h.node_wf (ps:=[]) rfl hn⟩
theorem Als (h:Inv n R M F G [] a w) {s1 s2:Nat} (hne:s1≠s2):BlkOK M w ((getT G s1).blocks++(getT G s2).blocks):=by
 obtain ⟨rest,hp⟩:=Af4 [s1,s2] G (by simp [hne]);simp only [List.flatMap_cons,List.flatMap_nil,List.append_nil] at hp;exact ((h.blk.perm (by rw [List.append_nil])).perm hp.symm).left
theorem WX.call2w {ops:Array Oper} {rest:List Nat} {i:Nat} {o:Oper} (ho:ops[i]? = some o) (hw:wantedD ops F o=some true) {c:Call} (hop:o.op=.call c) {x:Operand} (hcal:c.callee=.value x) {s1 s2:Nat} (hne:s1≠s2) {v:Value} (hv:v.oneCell'=true) {o1 o2:D} (n1:o1.node1=true) (n2:o2.node1=true)
  (hd:∀ d,o.dst=some d->d<n)
  (h:∀ (R:Nat->Value) (M:Mem) (G:FT) (a:Act) (w:World),Inv n R M F G [] a w->Good E M->Aeq n ops->(getT G s1).node=true/\(getT G s2).node=true/\∃ g cv,a.eval x=.func (.func g) #[] cv/\Does E.P g (c.args.toList.map a.eval++cv.toList).toArray w (Akv M w (getT G s1) (getT G s2) v o1 o2))
  (k:WX E n ops rest (fin (killF (Ad9 s1 s2) (put0 (put0 F s1 o1) s2 o2)) o.dst (.lit v)) X Q):WX E n ops (i::rest) F X Q:=by
 intro R M B w0 a w Qw hfit hg ⟨M1,G1,i1,e1,ox⟩ hQ;obtain ⟨h1,h2,g,cv,hx,hdo⟩:=h R M1 G1 a w i1 (hg.mono e1.memle) hfit;rw [wpOps_cons];unfold wpOp;simp only [ho];rw [Ai4 i1 hfit.guard hw];simp only [if_true];left;unfold Oper.wp;have hexec:(execOp a.eval o).run E.P w=(callFunc g (c.args.toList.map a.eval++cv.toList).toArray).run E.P w:=by
  simp only [execOp,hop,resolve,hcal,hx,Deferred.ofValue,Sem.run_bind,Sem.run_pure,Result.andThen_ok,invoke];congr 2;apply Array.ext';simp
 rw [hexec];have after:∀ (e:Ending) (w':World),Akv M1 w (getT G1 s1) (getT G1 s2) v o1 o2 e w'->e=.returned v/\wpOps E.P ops Qw rest (a.put o.dst v) w':=fun e w' hp=>by
  obtain ⟨he,hpx⟩:=Aco.call2 i1 e1 ox hne h1 h2 n1 n2 hp;exact ⟨he,k R M B w0 _ w' Qw hfit hg (hpx.putLit hv o.dst hd) hQ⟩
 unfold Does at hdo
 split at hdo
 ·rename_i g' vs w' hrun;rw [hrun];show Calls E.P g' vs w' _;refine Calls.mono hdo ?_;intro e w'' hp;obtain ⟨rfl,hk⟩:=after e w'' hp;exact hk
 ·rename_i v' w' hrun;rw [hrun];obtain ⟨he,hk⟩:=after _ _ hdo;cases he;exact hk
 ·exact hdo.elim
theorem WX.clo {ops:Array Oper} {rest:List Nat} {i:Nat} {o:Oper} (ho:ops[i]? = some o) (hw:wantedD ops F o=some true) {c:Call} (hop:o.op=.call c) {g:Nat} (hcal:c.callee=.value (.func g)) {xs:List Operand} {y:Operand} (hargs:c.args.toList=xs++[y]) (hyf:Fits n y) {v1 s1 s2:Nat} {ds:List D} (hxs:Anf E n F xs ds)
  (hy:opd E F y=some (.fn v1 [.alias s1 [],.alias s2 []])) (hne:s1≠s2) {c1 c2:D} (g1:get F s1=c1) (g2:get F s2=c2) {v:Value} (hv:v.oneCell'=true) {o1 o2:D} (n1:o1.node1=true) (n2:o2.node1=true) (hd:∀ d,o.dst=some d->d<n)
  (h:Apj E g v1 ds c1 c2 v o1 o2) (k:WX E n ops rest (fin (killF (Ad9 s1 s2) (put0 (put0 F s1 o1) s2 o2)) o.dst (.lit v)) X Q):WX E n ops (i::rest) F X Q:=by
 refine WX.call2w ho hw hop hcal hne hv n1 n2 hd (fun R M G a w hi hgd hfit=>?_) k;obtain ⟨m1,m2,hev⟩:=Awf hi hyf hy;obtain ⟨ts,a1,a2,a3,a4,_⟩:=Aml hi hxs;obtain ⟨d1,w1⟩:=node_wf hi m1;obtain ⟨d2,w2⟩:=node_wf hi m2;refine ⟨m1,m2,g,#[],rfl,?_⟩;have:=h M w ts (getT G s1) (getT G s2) a1 a3 a4 (by rw [← hi.get];exact g1) (by rw [← hi.get];exact g2) d1 d2 w1 w2 m1 m2 (Als hi hne) hi.mem hgd;have e:(c.args.toList.map a.eval++(#[]:Array Value).toList)=T.vals ts++[Value.func (.func v1) #[] [(getT G s1).val,(getT G s2).val].toArray]:=by
  rw [hargs,List.map_append,a2,List.map_cons,List.map_nil,hev];simp
 rw [e];exact this
theorem WX.self {ops:Array Oper} {rest:List Nat} {i:Nat} {o:Oper} (ho:ops[i]? = some o) (hw:wantedD ops F o=some true) {c:Call} (hop:o.op=.call c) {y:Operand} (hcal:c.callee=.value y) {x:Operand} (hargs:c.args.toList=[x]) (hyf:Fits n y) {v1 s1 s2:Nat} {d:D} (hxs:Anf E n F [x] [d])
  (hy:opd E F y=some (.fn v1 [.alias s1 [],.alias s2 []])) (hne:s1≠s2) {c1 c2:D} (g1:get F s1=c1) (g2:get F s2=c2) (u1:c1≠.undef) (u2:c2≠.undef) {v:Value} (hv:v.oneCell'=true) {o1 o2:D} (n1:o1.node1=true) (n2:o2.node1=true) (hd:∀ d,o.dst=some d->d<n)
  (m0:E.mode v1 0≠.inout) (m1:E.mode v1 1=.inout) (m2:E.mode v1 2=.inout) (h:FnOK E v1 [d,c1,c2] (.lit v) [o1,o2]) (k:WX E n ops rest (fin (killF (Ad9 s1 s2) (put0 (put0 F s1 o1) s2 o2)) o.dst (.lit v)) X Q):WX E n ops (i::rest) F X Q:=by
 refine WX.call2w ho hw hop hcal hne hv n1 n2 hd (fun R M G a w hi hgd hfit=>?_) k;obtain ⟨q1,q2,hev⟩:=Awf hi hyf hy;obtain ⟨ts,a1,a2,a3,a4,a5⟩:=Aml hi hxs;obtain ⟨t,rfl⟩:∃ t,ts=[t]:=by
  match ts,a1 with
  | [t],_=>exact ⟨t,rfl⟩
  | [],a1=>simp at a1
  | _::_::_,a1=>simp at a1
 simp only [List.map_cons,List.map_nil,List.cons.injEq,and_true] at a1;simp only [T.vals,List.map_cons,List.map_nil,List.cons.injEq,and_true] at a2;obtain ⟨d1,w1⟩:=node_wf hi q1;obtain ⟨d2,w2⟩:=node_wf hi q2;refine ⟨q1,q2,v1,[(getT G s1).val,(getT G s2).val].toArray,hev,?_⟩;have:=h.two m0 m1 m2 a1 (a3 t (by simp)) (a5 t (by simp)) (by rw [← hi.get];exact g1) (by rw [← hi.get];exact g2) d1 d2 w1 w2 q1 q2 u1 u2 (Als hi hne) hi.mem hgd;have e:c.args.toList.map a.eval++[(getT G s1).val,(getT G s2).val].toArray.toList=[t.val,(getT G s1).val,(getT G s2).val]:=by
  rw [hargs,List.map_cons,List.map_nil,a2];simp
 rw [e];exact this
theorem WX.chill {ops:Array Oper} {rest:List Nat} (l:List (Nat×Nat)) {F':Fr} (he:chillAll l F=F') (k:WX E n ops rest F' X Q):WX E n ops rest F X Q:=by
 intro R M B w0 a w Qw hfit hg ⟨M1,G1,i1,e1,ox⟩ hQ;obtain ⟨M2,G2,i2,e2⟩:=Post.chillAll l (⟨M1,G1,i1,Evo.refl M1 _ w⟩:Post n R M1 (keys (Aa0 G1)) w F a w);rw [he] at i2;exact k R M B w0 a w Qw hfit hg ⟨M2,G2,i2,e1.trans e2,e2.keepX ox⟩ hQ
end
end Go.Own
