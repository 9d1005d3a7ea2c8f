/- An interpreter of function bodies, sound. No conditions. -/
import Derived.LoopN
import Derived.Test.YtockohmmmlhhfabGreatDoorOwn15
import Derived.Test.YtockohmmmlhhfabGreatDoorOwn4
set_option linter.all false
namespace Go.Own
open D
def Ac9 (n:Nat):Code->Prop
 | .region _ ops _=>Aeq n ops
 | .seq a b=>Ac9 n a/\Ac9 n b
 | .cond x a b=>Fits n x/\Ac9 n a/\Ac9 n b
 | .block _ b=>Ac9 n b
 | .loop b=>Ac9 n b
 | _=>True
def Apy:Ex->Exit
 | .normal=>.normal
 | .exit id=>.exit id
 | .ret=>.ret
section
variable {n:Nat} {R:Nat->Value} {M:Mem} {F F':Fr} {G:FT} {H:Blks} {a:Act} {w w0:World} {B:List Nat}
theorem Post.trim0 {E:Env} {f k i:Nat} {V:List Nat} (h:Post n R M B w0 F a w) (hV:V.Nodup):Post n R M B w0 (trim0 E f V k i F) a w:=by
 unfold Go.Own.trim0
 split
 ·exact h
 ·exact h.norm (hV.sublist List.filter_sublist)
theorem Post.frz (h:Post n R M B w0 F a w) {s:Nat} {ps:Path} (hf:frzAt F s ps=some F'):Post n R M B w0 F' a w:=by
 obtain ⟨M1,G1,h1,e1⟩:=h;obtain ⟨M2,G2,h2,f2,_⟩:=Ap0 h1 hf;refine ⟨M2,G2,h2,e1.trans ⟨rfl,rfl,rfl,Nat.le_refl _,fun _ _ _=>rfl,f2.le,fun g o hg=>?_,fun g hg=>.inl (f2.sub g hg)⟩⟩;rcases f2.new g o hg with h | h
 ·exact .inl h
 ·exact .inr (.inl h)
theorem Post.chillS (h:Post n R M B w0 F a w) {s c:Nat}:∀ k,Post n R M B w0 (chillS F s c k) a w
 | 0=>h
 | k+1=>by
  simp only [Go.Own.chillS]
  split
  ·rename_i F1 h1;exact (Post.chillS h k).frz h1
  ·exact Post.chillS h k
theorem Post.chillC (h:Post n R M B w0 F a w) {s:Nat}:∀ k,Post n R M B w0 (chillC F s k) a w
 | 0=>h
 | k+1=>by
  simp only [Go.Own.chillC]
  split
  ·rename_i F1 h1;exact (Post.chillC h k).frz h1
  ·exact Post.chillC h k
theorem Post.chillAll:∀ (l:List (Nat×Nat)) {F:Fr},Post n R M B w0 F a w->Post n R M B w0 (chillAll l F) a w
 | [],_,h=>h
 | (s,c)::r,F,h=>by
  refine Post.chillAll r ?_;unfold Aps
  split
  ·split
   ·cases hf:frzAt F s [] with
    | none=>exact h
    | some F'=>exact h.frz hf
   ·exact h.chillS _
  ·exact h.chillC _
  ·exact h.chillC _
  ·exact h
theorem Post.trim {E:Env} {f k i:Nat} {V:List Nat} (h:Post n R M B w0 F a w) (hV:V.Nodup):Post n R M B w0 (trim E f V k i F) a w:=Post.chillAll _ (h.trim0 hV)
theorem Ad3 {E:Env} {f:Nat} {V:List Nat} {call:Nat->List D->Option (D×List D)} (hcall:Abq E call) (hgd:Good E M) (hm:E.P.follows .mixedOrders=true) (hV:V.Nodup) {N:Nat} :
  ∀ (c:Code) {F F':Fr} {a:Act} {w:World} {ex:Ex} {Q:Exit->Act->World->Prop},Ac9 n c->Post n R M B w0 F a w->Aae E f V call N c F=some (ex,F')->(∀ a' w',Post n R M B w0 F' a' w'->Q (Apy ex) a' w')->c.wp E.P Q a w
 | .skip,F,F',a,w,ex,Q,_,h,hx,hQ=>by
  simp only [Aae,zJ,Prod.mk.injEq] at hx;obtain ⟨rfl,rfl⟩:=hx;exact wp_skip (hQ _ _ h)
 | .exit id,F,F',a,w,ex,Q,_,h,hx,hQ=>by
  simp only [Aae,zJ,Prod.mk.injEq] at hx;obtain ⟨rfl,rfl⟩:=hx;exact wp_exit (hQ _ _ (h.trim hV))
 | .ret,F,F',a,w,ex,Q,_,h,hx,hQ=>by
  simp only [Aae,zJ,Prod.mk.injEq] at hx;obtain ⟨rfl,rfl⟩:=hx;exact wp_ret (hQ _ _ h)
 | .region id ops draw,F,F',a,w,ex,Q,hf,h,hx,hQ=>by
  simp only [Aae,Option.map_eq_some_iff,Prod.mk.injEq] at hx;obtain ⟨F1,hr,rfl,rfl⟩:=hx;unfold regC at hr;cases draw with
  | true=>
   simp only [if_true] at hr
   split at hr
   ·rename_i hc;simp only [Bool.and_eq_true] at hc;simp only [Option.map_eq_some_iff] at hr;obtain ⟨F2,hd,rfl⟩:=hr;exact Amw (fun h=>Aiq (fun _ _ _ h=>by cases h) h) hcall hgd hm hf h hc.1 hd fun a' w' hp=>hQ _ _ ((hp.norm hV).trim hV)
   ·cases hr
  | false=>
   simp only [Bool.false_eq_true,if_false,Option.map_eq_some_iff] at hr;obtain ⟨F2,hd,rfl⟩:=hr;exact wp_region (Amt hcall hgd hf _ h hd fun a' w' hp=>hQ _ _ ((hp.norm hV).trim hV))
 | .seq x y,F,F',a,w,ex,Q,hf,h,hx,hQ=>by
  simp only [Aae] at hx;refine wp_seq ?_;cases hr:Aae E f V call N x F with
  | none=>simp [hr] at hx
  | some q=>
   obtain ⟨e1,F1⟩:=q;cases e1 with
   | normal=>
    simp only [hr] at hx;exact Ad3 hcall hgd hm hV x hf.1 h hr fun a' w' hp=>Ad3 hcall hgd hm hV y hf.2 hp hx hQ
   | exit id=>
    simp only [hr,zJ,Prod.mk.injEq] at hx;obtain ⟨rfl,rfl⟩:=hx;exact Ad3 hcall hgd hm hV x hf.1 h hr fun a' w' hp=>hQ _ _ hp
   | ret=>
    simp only [hr,zJ,Prod.mk.injEq] at hx;obtain ⟨rfl,rfl⟩:=hx;exact Ad3 hcall hgd hm hV x hf.1 h hr fun a' w' hp=>hQ _ _ hp
 | .cond x c1 c2,F,F',a,w,ex,Q,hf,h,hx,hQ=>by
  simp only [Aae] at hx
  split at hx
  ·rename_i t ho;obtain ⟨M1,G1,h1,e1⟩:=h;have hb:=Abb (h1.opd hf.1 ho);refine wp_cond hb ?_;cases t with
   | true=>simp only [if_true] at hx ⊢;exact Ad3 hcall hgd hm hV c1 hf.2.1 (Post.trim ⟨M1,G1,h1,e1⟩ hV) hx hQ
   | false=>simp only [Bool.false_eq_true,if_false] at hx ⊢;exact Ad3 hcall hgd hm hV c2 hf.2.2 (Post.trim ⟨M1,G1,h1,e1⟩ hV) hx hQ
  ·cases hx
 | .block id b,F,F',a,w,ex,Q,hf,h,hx,hQ=>by
  simp only [Aae] at hx;refine wp_block ?_;cases hr:Aae E f V call N b F with
  | none=>simp [hr] at hx
  | some q=>
   obtain ⟨e1,F1⟩:=q;cases e1 with
   | normal=>
    simp only [hr,zJ,Prod.mk.injEq] at hx;obtain ⟨rfl,rfl⟩:=hx;exact Ad3 hcall hgd hm hV b hf h hr fun a' w' hp=>hQ _ _ hp
   | ret=>
    simp only [hr,zJ,Prod.mk.injEq] at hx;obtain ⟨rfl,rfl⟩:=hx;exact Ad3 hcall hgd hm hV b hf h hr fun a' w' hp=>hQ _ _ hp
   | exit i=>
    simp only [hr] at hx;refine Ad3 hcall hgd hm hV b hf h hr fun a' w' hp=>?_;show (if i=id then Q .normal a' w' else Q (.exit i) a' w')
    split at hx
    ·rename_i hi;simp only [zJ,Prod.mk.injEq] at hx;obtain ⟨rfl,rfl⟩:=hx;rw [if_pos hi];exact hQ _ _ hp
    ·rename_i hi;simp only [zJ,Prod.mk.injEq] at hx;obtain ⟨rfl,rfl⟩:=hx;rw [if_neg hi];exact hQ _ _ hp
 | .loop b,F,F',a,w,ex,Q,hf,h,hx,hQ=>by
  simp only [Aae] at hx;refine wp_loop_rounds N ?_;have key:∀ (k:Nat) {F:Fr} {a:Act} {w:World},Post n R M B w0 F a w->iter k (Aae E f V call N b) F=some (ex,F')->Code.rounds E.P b Q k a w:=by
   intro k
   induction k with
   | zero=>intro F a w _ hi;simp [iter] at hi
   | succ k ih=>
    intro F a w h hi;simp only [iter] at hi;rw [rounds_succ];cases hr:Aae E f V call N b F with
    | none=>simp [hr] at hi
    | some q=>
     obtain ⟨e1,F1⟩:=q;cases e1 with
     | normal=>
      simp only [hr] at hi;exact Ad3 hcall hgd hm hV b hf h hr fun a' w' hp=>ih hp hi
     | exit i=>
      simp only [hr,zJ,Prod.mk.injEq] at hi;obtain ⟨rfl,rfl⟩:=hi;exact Ad3 hcall hgd hm hV b hf h hr fun a' w' hp=>hQ _ _ hp
     | ret=>
      simp only [hr,zJ,Prod.mk.injEq] at hi;obtain ⟨rfl,rfl⟩:=hi;exact Ad3 hcall hgd hm hV b hf h hr fun a' w' hp=>hQ _ _ hp
  exact key N h hx
 | .rangeFunc ..,F,F',a,w,ex,Q,_,_,hx,_=>by simp [Aae] at hx
 | .scope _,F,F',a,w,ex,Q,_,_,hx,_=>by simp [Aae] at hx
 | .label _,F,F',a,w,ex,Q,_,_,hx,_=>by simp [Aae] at hx
 | .goto _,F,F',a,w,ex,Q,_,_,hx,_=>by simp [Aae] at hx
 | .refuse _,F,F',a,w,ex,Q,_,_,hx,_=>by simp [Aae] at hx
def Ag3 (n:Nat):ResultVar->Prop
 | .tmp t=>t<n
 | .cell a _=>a<n
def Ahm (tmps:Array Value):ResultVar->Sem Value
 | .tmp t=>pure (tmps.getD t undef)
 | .cell a t=>do loadVar t (← asAddr (tmps.getD a undef))
theorem Bdq {E:Env} (h:Inv n R M F G H a w) {r:ResultVar} (hr:Ag3 n r) {d:D} (hd:resC E F r=some (d,F')) :
  (∃ v,(Ahm a.tmps r).run E.P w=.ok v w/\Took n R M F' G H a w (Giv M) d v):=by
 cases r with
 | tmp t=>
  have:=Af5 (E:=E) h (x:=.tmp t) (fun s hs=>by cases hs;exact hr) hd;exact ⟨_,by simp [Ahm,Act.eval],this⟩
 | cell b t=>
  simp only [resC] at hd
  split at hd
  case h_2=>cases hd
  rename_i cs hg
  split at hd
  case isFalse=>cases hd
  rename_i hl
  split at hd
  case h_2=>cases hd
  rename_i d' hof
  split at hd
  ·cases hd
  rename_i hu;simp only [zJ,Prod.mk.injEq] at hd;obtain ⟨rfl,rfl⟩:=hd;simp only [Bool.or_eq_true,not_or,Bool.not_eq_true] at hu;rw [h.get] at hg;have htd:=h.tidyG b;obtain ⟨g,e,ts,e1,e2⟩:=Amf htd hg;have hne:getT G b≠noT:=by rw [e1,noT];simp
  have hf:=Acl hne;have hok:=h.okG b;obtain ⟨u,G1,b1,b2,b3,b4,b5,b6⟩:=Ahn h (W:=fun u=>u=getT G b) hf rfl;subst b4;rw [e1] at hok b3;have hwts:T.wfC M ts:=hok;have htts:T.tidyC ts:=b3;have hev:a.tmps.getD b undef=.pointer (some ⟨g,0,none⟩):=by
   have hb:b<n:=hr;have:=h.eval hb hf;simp only [Act.eval] at this;rw [this,e1];rfl
  have hblk:=(h.block (s:=b) (ps:=[]) (x:=getT G b) rfl (b:=(g,.cells (T.vals ts).toArray e (0,0))) (by rw [e1];simp [T.blocks])).1;have hlt:ts.length=sizeT E.P t:=by rw [← hl,← e2];simp
  cases hut:E.P.underlying t with
  | none=>simp [hut] at hu
  | some dt=>
   have hrun:=Agy (P:=E.P) (t:=t) (w:=w) (g:=g) (b:=0) (vs:=T.vals ts) hut (fun j u hj=>by
    rw [cell_of_row w g (0+j) _ e (0,0) hblk];simpa using hj) (by simpa using hlt)
   have hbl:(T.blocksC ts++H).Perm (T.blocksC ts++H):=List.Perm.refl _;have hperm:((T.blocksC ts++H)++[(g,Obj.cells (T.vals ts).toArray e (0,0))]).Perm ((getT G b).blocks++H):=by
    rw [e1];simp only [T.blocks];exact List.perm_append_comm.trans (by simp)
   cases hag:isAggT E.P t with
   | true=>
    rw [hag] at hof hrun;simp only [ofCells,if_true,zJ] at hof;subst hof;refine ⟨.agg (T.vals ts).toArray,?_,.agg ts,G1,by simp [T.erase,T.eraseC_eq,e2],by simp [T.val],htts,hwts,by simpa [T.blocks] using b5.less hperm,?_⟩
    ·simp only [Ahm,hev,asAddr,Sem.run_bind,Sem.run_pure,Result.andThen_ok];have:=hrun (by simp);simpa using this
    ·simp only [T.blocks];exact Sub.trans (Sub.less hperm) b6
   | false=>
    rw [hag] at hof hrun;simp only [ofCells,Bool.false_eq_true,if_false] at hof
    split at hof
    ·rename_i c;simp only [zJ] at hof;subst hof
     match ts,e2,hwts,htts,hlt,hrun,hperm,hblk with
     | [tc],e2,hwts,htts,hlt,hrun,hperm,hblk=>
      simp only [List.map_cons,List.map_nil,List.cons.injEq,and_true] at e2;subst e2;have hnu:tc.erase≠.undef:=fun hz=>by rw [hz] at hu;simp [Abt] at hu
      refine ⟨tc.val,?_,tc,G1,rfl,rfl,htts.1,Aca hwts.1 hnu,by simpa [T.blocksC] using b5.less hperm,?_⟩
      ·simp only [Ahm,hev,asAddr,Sem.run_bind,Sem.run_pure,Result.andThen_ok];have:=hrun (fun _=>by simpa using hlt.symm);simpa [T.vals] using this
      ·have:=Sub.trans (Sub.less hperm) b6;simpa [T.blocksC] using this
     | [],e2,_,_,_,_,_,_=>simp at e2
     | _::_::_,e2,_,_,_,_,_,_=>simp at e2
    ·cases hof
theorem Ak3 {E:Env}:∀ (rs:List ResultVar) {F F':Fr} {G:FT} {H:Blks} {ds:List D},Inv n R M F G H a w->(∀ r∈rs,Ag3 n r)->Ad8 E F rs=some (ds,F') ->
  ∃ ts G',ts.map T.erase=ds/\(rs.mapM (Ahm a.tmps)).run E.P w=.ok (T.vals ts) w/\T.tidyC ts/\(∀ t∈ts,Giv M t)/\Inv n R M F' G' (T.blocksC ts++H) a w/\Sub (Aa0 G'++(T.blocksC ts++H)) (Aa0 G++H)
 | [],F,F',G,H,ds,h,_,hd=>by
  simp only [Ad8,zJ,Prod.mk.injEq] at hd;obtain ⟨rfl,rfl⟩:=hd;exact ⟨[],G,rfl,by simp [T.vals],trivial,by simp,by simpa [T.blocksC] using h,by simpa [T.blocksC] using Sub.refl _⟩
 | r::rs,F,F',G,H,ds,h,hf,hd=>by
  simp only [Ad8] at hd;cases hc:resC E F r with
  | none=>simp [hc] at hd
  | some q=>
   obtain ⟨d,F1⟩:=q;simp only [hc] at hd;cases hr:Ad8 E F1 rs with
   | none=>simp [hr] at hd
   | some q2=>
    obtain ⟨ds',F2⟩:=q2;simp only [hr,zJ,Prod.mk.injEq] at hd;obtain ⟨rfl,rfl⟩:=hd;obtain ⟨v,hv,t,G1,a1,a2,a3,a4,a5,a6⟩:=Bdq h (hf r (by simp)) hc;obtain ⟨ts,G2,b1,b2,b3,b4,b5,b6⟩:=Ak3 rs a5 (fun x hx=>hf x (by simp [hx])) hr;refine ⟨t::ts,G2,by simp [a1,b1],?_,⟨a3,b3⟩,?_,?_,?_⟩
    ·simp only [List.mapM_cons,Sem.run_bind,hv,Result.andThen_ok,b2,Sem.run_pure,T.vals,a2]
    ·intro x hx;rcases List.mem_cons.1 hx with rfl | hx
     ·exact a4
     ·exact b4 x hx
    ·refine { b5 with blk:=?_ };refine b5.blk.perm (List.Perm.append_left _ ?_);simp only [T.blocksC,List.append_assoc];exact List.perm_append_comm_assoc _ _ _
    ·refine Sub.trans (Sub.of_perm ?_) (b6.trans a6);refine List.Perm.append_left _ ?_;simp only [T.blocksC,List.append_assoc];exact List.perm_append_comm_assoc _ _ _
end
end Go.Own
namespace Go.Own
open D
def ToM (E:Env) (n:Nat) (cd:Code) (F:Fr) (Q:Ex->Fr->Prop):Prop:=
 ∀ (R:Nat->Value) (M:Mem) (B:List Nat) (w0:World) (a:Act) (w:World) (Qw:Exit->Act->World->Prop),Ac9 n cd->Good E M->Post n R M B w0 F a w ->
  (∀ e F' a' w',Q e F'->Post n R M B w0 F' a' w'->Qw (Apy e) a' w')->cd.wp E.P Qw a w
def Ak8 (E:Env) (f:Nat) (fd:Func) (n:Nat) (r:D) (outs:List D):Ex->Fr->Prop
 | .exit _,_=>False
 | _,F=>Af0 E f fd n F=some (r,outs)
section
variable {E:Env} {n f:Nat} {V:List Nat} {F F':Fr} {Q:Ex->Fr->Prop} {call:Nat->List D->Option (D×List D)}
theorem ToM.exec (hcall:Abq E call) (hm:E.P.follows .mixedOrders=true) (hV:V.Nodup) {N:Nat} {cd:Code} {e:Ex} (h:Aae E f V call N cd F=some (e,F')) (k:Q e F'):ToM E n cd F Q:=
 fun _ _ _ _ _ _ _ hf hg hp hQ=>Ad3 hcall hg hm hV cd hf hp h fun a' w' hp'=>hQ _ _ a' w' k hp'
theorem ToM.region (hcall:Abq E call) (hm:E.P.follows .mixedOrders=true) (f:Nat) (V:List Nat) (hV:V.Nodup) {id:Nat} {ops:Array Oper} {d:Bool} (F':Fr) (h:regC E f V call ops d F=some F') (k:Q .normal F'):ToM E n (.region id ops d) F Q:=by
 intro R M B w0 a w Qw hf hg hp hQ;unfold regC at h;cases d with
 | true=>
  simp only [if_true] at h
  split at h
  ·rename_i hc;simp only [Bool.and_eq_true] at hc;simp only [Option.map_eq_some_iff] at h;obtain ⟨F2,hd,rfl⟩:=h;exact Amw (fun h=>Aiq (fun _ _ _ h=>by cases h) h) hcall hg hm hf hp hc.1 hd fun a' w' hp=>hQ _ _ _ _ k (hp.norm hV)
  ·cases h
 | false=>
  simp only [Bool.false_eq_true,if_false,Option.map_eq_some_iff] at h;obtain ⟨F2,hd,rfl⟩:=h;exact wp_region (Amt hcall hg hf _ hp hd fun a' w' hp=>hQ _ _ _ _ k (hp.norm hV))
theorem ToM.skip (k:Q .normal F):ToM E n .skip F Q:=fun _ _ _ _ _ _ _ _ _ hp hQ=>wp_skip (hQ _ _ _ _ k hp)
theorem ToM.ret (k:Q .ret F):ToM E n .ret F Q:=fun _ _ _ _ _ _ _ _ _ hp hQ=>wp_ret (hQ _ _ _ _ k hp)
theorem ToM.exit {id:Nat} (k:Q (.exit id) F):ToM E n (.exit id) F Q:=fun _ _ _ _ _ _ _ _ _ hp hQ=>wp_exit (hQ _ _ _ _ k hp)
theorem ToM.mono {Q':Ex->Fr->Prop} {cd:Code} (h:ToM E n cd F Q) (k:∀ e F,Q e F->Q' e F):ToM E n cd F Q':=
 fun R M B w0 a w Qw hf hg hp hQ=>h R M B w0 a w Qw hf hg hp fun e F' a' w' q=>hQ e F' a' w' (k e F' q)
def Bh6 (E:Env) (n:Nat) (b:Code) (Q:Ex->Fr->Prop):Ex->Fr->Prop
 | .normal,F=>ToM E n b F Q
 | e,F=>Q e F
theorem ToM.seq {a b:Code} (h:ToM E n a F (Bh6 E n b Q)):ToM E n (.seq a b) F Q:=by
 intro R M B w0 x w Qw hf hg hp hQ;refine wp_seq (h R M B w0 x w _ hf.1 hg hp ?_);intro e F' a' w' q hp';cases e with
 | normal=>exact q R M B w0 a' w' Qw hf.2 hg hp' hQ
 | exit id=>exact hQ _ _ _ _ q hp'
 | ret=>exact hQ _ _ _ _ q hp'
theorem ToM.cond {y:Operand} {a b:Code} {t:Bool} (hy:opd E F y=some (.lit (.bool t))) (h1:t=true->ToM E n a F Q) (h2:t=false->ToM E n b F Q):ToM E n (.cond y a b) F Q:=by
 intro R M B w0 x w Qw hf hg hp hQ;obtain ⟨M1,G1,i1,e1⟩:=hp;have hb:=Abb (i1.opd hf.1 hy);refine wp_cond hb ?_;cases t with
 | true=>exact h1 rfl R M B w0 x w Qw hf.2.1 hg ⟨M1,G1,i1,e1⟩ hQ
 | false=>exact h2 rfl R M B w0 x w Qw hf.2.2 hg ⟨M1,G1,i1,e1⟩ hQ
def Au6 (id:Nat) (Q:Ex->Fr->Prop):Ex->Fr->Prop
 | .exit i,F=>if i=id then Q .normal F else Q (.exit i) F
 | e,F=>Q e F
theorem ToM.block {id:Nat} {b:Code} (h:ToM E n b F (Au6 id Q)):ToM E n (.block id b) F Q:=by
 intro R M B w0 x w Qw hf hg hp hQ;refine wp_block (h R M B w0 x w _ hf hg hp ?_);intro e F' a' w' q hp';cases e with
 | normal=>exact hQ _ _ _ _ q hp'
 | ret=>exact hQ _ _ _ _ q hp'
 | exit i=>
  show (if i=id then Qw .normal a' w' else Qw (.exit i) a' w');simp only [Au6] at q
  split
  ·rename_i hi;rw [if_pos hi] at q;exact hQ _ _ _ _ q hp'
  ·rename_i hi;rw [if_neg hi] at q;exact hQ _ _ _ _ q hp'
def Ath (E:Env) (n:Nat) (b:Code) (Q:Ex->Fr->Prop):Nat->Fr->Prop
 | 0,_=>False
 | k+1,F=>ToM E n b F fun e F1=>match e with
  | .normal=>Ath E n b Q k F1
  | e=>Q e F1
theorem ToM.loop {b:Code} (k:Nat) (h:Ath E n b Q k F):ToM E n (.loop b) F Q:=by
 intro R M B w0 x w Qw hf hg hp hQ;refine wp_loop_rounds k ?_;have key:∀ (k:Nat) {F:Fr} {a:Act} {w:World},Ath E n b Q k F->Post n R M B w0 F a w->Code.rounds E.P b Qw k a w:=by
  intro k
  induction k with
  | zero=>intro F a w h _;exact h.elim
  | succ k ih=>
   intro F a w h hp;rw [rounds_succ];refine h R M B w0 a w _ hf hg hp ?_;intro e F' a' w' q hp';cases e with
   | normal=>exact ih q hp'
   | exit id=>exact hQ _ _ _ _ q hp'
   | ret=>exact hQ _ _ _ _ q hp'
 exact key k h hp
theorem ToM.loopInd {b:Code} (P:Nat->Fr->Prop) (h0:∀ F,¬ P 0 F) (hs:∀ k F,P (k+1) F->ToM E n b F fun e F1=>match e with
  | .normal=>P k F1
  | e=>Q e F1) (k:Nat) (h:P k F):ToM E n (.loop b) F Q:=by
 refine ToM.loop k ?_;have key:∀ (k:Nat) (F:Fr),P k F->Ath E n b Q k F:=by
  intro k
  induction k with
  | zero=>intro F h;exact absurd h (h0 F)
  | succ k ih=>
   intro F h;refine ToM.mono (hs k F h) fun e F1 q=>?_;cases e with
   | normal=>exact ih F1 q
   | exit i=>exact q
   | ret=>exact q
 exact key k F h
theorem ToM.less {cd:Code} (k:∀ (R:Nat->Value) (M:Mem) (B:List Nat) (w0:World) (a:Act) (w:World),Post n R M B w0 F a w->Post n R M B w0 F' a w) (h:ToM E n cd F' Q):ToM E n cd F Q:=
 fun R M B w0 a w Qw hf hg hp hQ=>h R M B w0 a w Qw hf hg (k R M B w0 a w hp) hQ
theorem ToM.normed {cd:Code} {V:List Nat} (hV:V.Nodup) (F':Fr) (he:Own.norm V F=F') (h:ToM E n cd F' Q):ToM E n cd F Q:=ToM.less (fun _ _ _ _ _ _ hp=>by rw [← he];exact hp.norm hV) h
end
end Go.Own
namespace Go.Own
open D
def Ar9 (E:Env):Prop:=∀ (f:Nat) (p:List D->Option (D×List D)) (ds:List D) (r:D) (outs:List D),E.prim f=some p->p ds=some (r,outs)->FnOK E f ds r outs
def Ar7 (E:Env):Prop:=∀ (call:Nat->List D->Option (D×List D)),Abq E call->∀ (f:Nat) (q:List D->Ask) (ds:List D) (r:D) (outs:List D),E.hand f=some q->runAsk call (q ds)=some (r,outs)->FnOK E f ds r outs
structure EnvOK (E:Env):Prop where
 mixed:E.P.follows .mixedOrders=true
 hands:Ar7 E
 prims:Ar9 E
 name : ∀ (f : Nat) (fd : Func), E.P.funcs[f]? = some fd -> E.prim f = none -> (fd.name == "runtime.NumGoroutine") = false
 fits:∀ (f:Nat) (fd:Func) (c:Code),E.P.funcs[f]? = some fd->E.prim f=none->fd.body=some c->Ac9 fd.ntmps c/\∀ r∈fd.results.toList,Ag3 fd.ntmps r
 vars:∀ (f:Nat),(E.vars f).Nodup/\∀ s∈E.vars f,s<1000000
section
variable {n:Nat} {R:Nat->Value} {M:Mem} {F F':Fr} {G:FT} {H:Blks} {a:Act} {w w0:World} {B:List Nat}
def Acg (E:Env) (f:Nat):Nat->List T->FT
 | _,[]=>[]
 | i,t::ts=>if E.mode f i=.inout then (i,.leaf (.alias (lent i) []) t.val)::(lent i,t)::Acg E f (i+1) ts else (i,t)::Acg E f (i+1) ts
theorem Alv (E:Env) (f:Nat):∀ (ts:List T) (i:Nat),Acd (Acg E f i ts)=Adj E f i (ts.map T.erase)
 | [],_=>rfl
 | t::ts,i=>by
  have ih:=Alv E f ts (i+1);simp only [Acd] at ih;simp only [Acg,List.map_cons,Adj]
  split
  ·simp only [Acd,List.map_cons,T.erase,ih]
  ·simp only [Acd,List.map_cons,ih]
theorem Ags (E:Env) (f:Nat):∀ (ts:List T) (i:Nat),Aa0 (Acg E f i ts)=T.blocksC ts
 | [],_=>rfl
 | t::ts,i=>by
  have ih:=Ags E f ts (i+1);simp only [Aa0] at ih;simp only [Acg,T.blocksC]
  split
  ·simp only [Aa0,List.flatMap_cons,T.blocks,List.nil_append,ih]
  ·simp only [Aa0,List.flatMap_cons,ih]
theorem Ao6 (E:Env) (f:Nat):∀ (ts:List T) (i:Nat) {s:Nat} {t:T},(s,t)∈Acg E f i ts->∃ j u,ts[j]? = some u /\
  ((s=i+j/\E.mode f (i+j)≠.inout/\t=u)∨(s=i+j/\E.mode f (i+j)=.inout/\t=.leaf (.alias (lent (i+j)) []) u.val)∨(s=lent (i+j)/\E.mode f (i+j)=.inout/\t=u))
 | [],_,_,_,h=>by simp [Acg] at h
 | u::ts,i,s,t,h=>by
  have step:(s,t)∈Acg E f (i+1) ts->∃ j v,(u::ts)[j]? = some v /\
    ((s=i+j/\E.mode f (i+j)≠.inout/\t=v)∨(s=i+j/\E.mode f (i+j)=.inout/\t=.leaf (.alias (lent (i+j)) []) v.val)∨(s=lent (i+j)/\E.mode f (i+j)=.inout/\t=v)):=fun h=>by
   obtain ⟨j,v,h1,h2⟩:=Ao6 E f ts (i+1) h;refine ⟨j+1,v,by simpa using h1,?_⟩;rw [show i+(j+1)=i+1+j by omega];exact h2
  simp only [Acg] at h
  split at h
  ·rename_i hm;simp only [List.mem_cons,Prod.mk.injEq] at h;rcases h with ⟨rfl,rfl⟩ | ⟨rfl,rfl⟩ | h
   ·exact ⟨0,u,rfl,.inr (.inl ⟨rfl,hm,rfl⟩)⟩
   ·exact ⟨0,t,rfl,.inr (.inr ⟨rfl,hm,rfl⟩)⟩
   ·exact step h
  ·rename_i hm;simp only [List.mem_cons,Prod.mk.injEq] at h;rcases h with ⟨rfl,rfl⟩ | h
   ·exact ⟨0,t,rfl,.inl ⟨rfl,hm,rfl⟩⟩
   ·exact step h
theorem Asl:∀ {G:FT} {s:Nat} {t:T},Aaa G s=some t->(s,t)∈G
 | [],_,_,h=>by simp [Aaa] at h
 | (k,x)::G,s,t,h=>by
  simp only [Aaa] at h
  split at h
  ·rename_i hk;cases h;subst hk;exact List.mem_cons_self
  ·exact List.mem_cons_of_mem _ (Asl h)
theorem Amb (E:Env) (f:Nat):∀ (ts:List T) (i j:Nat) {u:T},ts[j]? = some u->E.mode f (i+j)=.inout->i+ts.length<=1000000->Aaa (Acg E f i ts) (lent (i+j))=some u
 | [],_,_,_,h,_,_=>by simp at h
 | t::ts,i,0,u,h,hm,hl=>by
  simp only [List.getElem?_cons_zero,zJ] at h;subst h;have hm':E.mode f i=.inout:=hm;have hne:i≠lent i:=by unfold lent;omega
  simp only [Acg,hm',if_true,Aaa,Nat.add_zero,hne,if_false]
 | t::ts,i,j+1,u,h,hm,hl=>by
  have h1:ts[j]? = some u:=by simpa using h
  have hj:=(List.getElem?_eq_some_iff.1 h1).1;have he:i+(j+1)=i+1+j:=by omega
  have ih:=Amb E f ts (i+1) j h1 (by rw [← he];exact hm) (by simp at hl;omega);rw [he];have hn1:i≠lent (i+1+j):=by unfold lent;simp at hl;omega
  have hn2:lent i≠lent (i+1+j):=by unfold lent;omega
  simp only [Acg]
  split
  ·simp only [Aaa,hn1,hn2,if_false,ih]
  ·simp only [Aaa,hn1,if_false,ih]
theorem Aqf (E:Env) (f:Nat):∀ (ts:List T) (i j:Nat) {u:T},ts[j]? = some u->E.mode f (i+j)=.inout->u∈Aav E f i ts
 | [],_,_,_,h,_=>by simp at h
 | t::ts,i,0,u,h,hm=>by
  simp only [List.getElem?_cons_zero,zJ] at h;subst h;have hm':E.mode f i=.inout:=hm;simp only [Aav,hm',if_true];exact List.mem_cons_self
 | t::ts,i,j+1,u,h,hm=>by
  have ih:=Aqf E f ts (i+1) j (by simpa using h) (by rw [show i+1+j=i+(j+1) by omega];exact hm);simp only [Aav]
  split
  ·exact List.mem_cons_of_mem _ ih
  ·exact ih
theorem Ahk (E:Env) (f:Nat):∀ (n i s:Nat),s∈Ac3 E f i n->∃ j,i<=j/\j<i+n/\s=lent j/\E.mode f j=.inout
 | 0,_,_,h=>by simp [Ac3] at h
 | n+1,i,s,h=>by
  simp only [Ac3] at h
  split at h
  ·rename_i hm;rcases List.mem_cons.1 h with rfl | h
   ·exact ⟨i,by omega,by omega,rfl,hm⟩
   ·obtain ⟨j,h1,h2,h3⟩:=Ahk E f n (i+1) s h;exact ⟨j,by omega,by omega,h3⟩
  ·obtain ⟨j,h1,h2,h3⟩:=Ahk E f n (i+1) s h;exact ⟨j,by omega,by omega,h3⟩
theorem Ah8 (E:Env) (f:Nat):∀ (n i:Nat),(Ac3 E f i n).Nodup
 | 0,_=>by simp [Ac3]
 | n+1,i=>by
  simp only [Ac3]
  split
  ·refine List.nodup_cons.2 ⟨fun h=>?_,Ah8 E f n (i+1)⟩;obtain ⟨j,h1,_,h3,_⟩:=Ahk E f n (i+1) _ h;unfold lent at h3;omega
  ·exact Ah8 E f n (i+1)
theorem Aqg (E:Env) (f:Nat) {R:Nat->Value}:∀ (ts:List T) (i:Nat),(∀ j u,ts[j]? = some u->R (lent (i+j))=u.val)->(Ac3 E f i ts.length).map R=T.vals (Aav E f i ts)
 | [],_,_=>rfl
 | t::ts,i,h=>by
  have ih:=Aqg E f ts (i+1) (fun j u hj=>by have:=h (j+1) u (by simpa using hj);rwa [show i+1+j=i+(j+1) by omega]);have h0:=h 0 t rfl;simp only [List.length_cons,Ac3,Aav]
  split
  ·simp only [List.map_cons,T.vals,ih];rw [← h0];rfl
  ·exact ih
theorem Bal {E:Env} {f:Nat} {ts:List T} {N:Nat} (hN:ts.length<=N) (hN2:N<1000000) (ht:∀ t∈ts,t.tidy/\Giv M t) (hl:∀ t∈Aav E f 0 ts,t.node=true) (hb:BlkOK M w (T.blocksC ts)) (hm:Aar M w) :
  Inv N (fun s=>(ts.getD (s-1000000) noT).val) M (Adj E f 0 (ts.map T.erase)) (Acg E f 0 ts) [] { tmps:=(T.vals ts).toArray++Array.replicate (N-(T.vals ts).toArray.size) undef,defers:=[] } w:=by
 have hmem:∀ s t,Aaa (Acg E f 0 ts) s=some t->_:=fun s t h=>Ao6 E f ts 0 (Asl h);have hval:∀ (j:Nat) (u:T),ts[j]? = some u->((T.vals ts).toArray++Array.replicate (N-(T.vals ts).toArray.size) undef)[j]? = some u.val:=fun j u hj=>by
  have hlt:=(List.getElem?_eq_some_iff.1 hj).1;rw [Array.getElem?_append_left (by simpa using hlt)];simp [T.vals_eq,hj]
 constructor
 ·exact Alv E f ts 0
 ·simp;omega
 ·rfl
 ·intro s t h;obtain ⟨j,u,hj,hc⟩:=hmem s t h;have hlt:=(List.getElem?_eq_some_iff.1 hj).1;simp only [Nat.zero_add] at hc;rcases hc with ⟨rfl,_,rfl⟩ | ⟨rfl,_,rfl⟩ | ⟨rfl,_,rfl⟩
  ·rw [if_pos (by omega)];exact hval _ _ hj
  ·rw [if_pos (by omega)];exact hval _ u hj
  ·rw [if_neg (by unfold lent;omega)];have:lent j-1000000=j:=by unfold lent;omega
   simp [this,hj]
 ·intro s t h;obtain ⟨j,u,hj,hc⟩:=hmem s t h;have hu:=ht u (List.mem_of_getElem? hj);rcases hc with ⟨_,_,rfl⟩ | ⟨_,_,rfl⟩ | ⟨_,_,rfl⟩
  ·exact hu.1
  ·simp [T.tidy]
  ·exact hu.1
 ·intro s t h;obtain ⟨j,u,hj,hc⟩:=hmem s t h;have hu:=ht u (List.mem_of_getElem? hj);have hlt:=(List.getElem?_eq_some_iff.1 hj).1;rcases hc with ⟨_,_,rfl⟩ | ⟨_,hmd,rfl⟩ | ⟨_,_,rfl⟩
  ·exact Abj hu.2
  ·have hfind:=Amb E f ts 0 j hj hmd (by omega);exact ⟨u,by simp only [T.getP,getT,hfind,Option.getD_some],hl u (Aqf E f ts 0 j hj hmd),rfl⟩
  ·exact Abj hu.2
 ·rw [Ags,List.append_nil];exact hb
 ·exact hm
theorem Ais {P : Program} {f : Nat} {fd : Func} {c : Code} (hf : P.funcs[f]? = some fd) (hn : (fd.name == "runtime.NumGoroutine") = false) (hb : fd.body = some c) (args : Array Value) (w : World) : (callFunc f args).run P w = .ok (.enter f args) w := by
 unfold callFunc;simp only [Sem.run_bind,run_program,Result.andThen_ok,hf,hn,hb,Option.isNone_some,Bool.false_eq_true,if_false,Sem.run_pure]
def oneV:List Value->Value
 | [v]=>v
 | vs=>.tuple vs.toArray
theorem Ate {P:Program} {α:Type} (f:α->Sem Value) (arr:Array α) {vs:List Value} {w:World} (h:(arr.toList.mapM f).run P w=.ok vs w):(arr.mapM f).run P w=.ok vs.toArray w:=by
 rw [← Array.toArray_toList (xs:=arr),List.mapM_toArray];simp only [map_eq_pure_bind,Sem.run_bind,h,Result.andThen_ok,Sem.run_pure]
theorem Aoi {P:Program} {fd:Func} {tmps:Array Value} {vs:List Value} {w:World} (h:(fd.results.toList.mapM (Ahm tmps)).run P w=.ok vs w):(results fd tmps).run P w=.ok (oneV vs) w:=by
 have hr:results fd tmps=(do let vs ← fd.results.mapM (Ahm tmps);pure (if h:vs.size=1 then vs[0] else .tuple vs)):=by
  unfold results;congr 2
 rw [hr,Sem.run_bind,Ate (Ahm tmps) fd.results h];simp only [Result.andThen_ok,Sem.run_pure]
 match vs with
 | []=>rfl
 | [v]=>rfl
 | _::_::_=>simp [oneV]
theorem Amj {E : Env} {f : Nat} {fd : Func} {c : Code} {ds : List D} {r : D} {outs : List D} {V : List Nat} (hf : E.P.funcs[f]? = some fd) (hn : (fd.name == "runtime.NumGoroutine") = false) (hb : fd.body = some c) (hfit : Ac9 fd.ntmps c) (hres : ∀ r ∈ fd.results.toList, Ag3 fd.ntmps r)
  (hV:V.Nodup) (hlen:ds.length<=fd.ntmps/\fd.ntmps<1000000) (hx:ToM E fd.ntmps c (norm V (Adj E f 0 ds)) (Ak8 E f fd ds.length r outs)):FnOK E f ds r outs:=by
 intro M w ts hts htg hln hblk hmem hgd;have hds:ds.length=ts.length:=by rw [← hts];simp
 unfold Does;rw [Ais hf hn hb];simp only;refine calls_of_wp hf hb ?_;have h0:=Bal (E:=E) (f:=f) (N:=fd.ntmps) (by omega) hlen.2 htg hln hblk hmem;rw [hts] at h0;have hp0:Post fd.ntmps (fun s=>(ts.getD (s-1000000) noT).val) M (keys (T.blocksC ts)) w (Adj E f 0 ds) _ w:=⟨M,_,h0,Evo.refl' M w (fun g hg=>by rw [Ags] at hg;exact hg)⟩
 have leave:∀ (F:Fr) (a':Act) (w':World),Af0 E f fd ds.length F=some (r,outs)->Post fd.ntmps (fun s=>(ts.getD (s-1000000) noT).val) M (keys (T.blocksC ts)) w F a' w'->a'.defers=[]/\∃ v,(results fd a'.tmps).run E.P w'=.ok v w' /\
   (∃ M' t touts,Ending.returned v=.returned t.val/\t.erase=r/\t.tidy/\Acp M' t/\touts.map T.erase=outs/\(∀ o∈touts,o.tidy/\T.wf M' o)/\T.vals touts=T.vals (Aav E f 0 ts) /\
    BlkOK M' w' (t.blocks++T.blocksC touts)/\Aar M' w'/\Evo M (keys (T.blocksC ts)) w M' (keys (t.blocks++T.blocksC touts)) w'):=by
  intro F a' w' hl hp;obtain ⟨M',G',i1,e1⟩:=hp;refine ⟨i1.defers,?_⟩;unfold Af0 at hl;cases hrs:Ad8 E F fd.results.toList with
  | none=>simp [hrs] at hl
  | some q=>
   obtain ⟨rds,F2⟩:=q;simp only [hrs] at hl
   split at hl
   case isFalse=>cases hl
   rename_i hn1;simp only [zJ,Prod.mk.injEq] at hl;obtain ⟨rfl,rfl⟩:=hl;obtain ⟨rts,G2,b1,b2,b3,b4,b5,b6⟩:=Ak3 _ i1 hres hrs;refine ⟨_,Aoi b2,?_⟩
   let S:=Ac3 E f 0 ds.length
   have hS:∀ s∈S,(getT G2 s).tidy/\T.wf M' (getT G2 s)/\(getT G2 s).val=(ts.getD (s-1000000) noT).val:=fun s hs=>by
    have hnd:=List.all_eq_true.1 hn1 (get F2 s) (List.mem_map.2 ⟨s,hs,rfl⟩);rw [b5.get] at hnd;have htd:=b5.tidyG s;have hok:=b5.okG s;have hnode:(getT G2 s).node=true/\T.wf M' (getT G2 s):=by
     cases hg:getT G2 s with
     | leaf d v=>
      rw [hg] at hnd htd hok;cases d<;>simp_all [T.erase,D.node1,T.tidy,T.node]
      ·exact .inr hok
      ·exact .inr hok
     | agg=>rw [hg] at hnd;simp [T.erase,D.node1] at hnd
     | tup=>rw [hg] at hnd;simp [T.erase,D.node1] at hnd
     | own=>rw [hg] at hok;exact ⟨rfl,hok⟩
     | nil=>exact ⟨rfl,by simp [T.wf]⟩
     | box=>rw [hg] at hok;exact ⟨rfl,hok⟩
     | map=>rw [hg] at hok;exact ⟨rfl,hok⟩
     | bld=>rw [hg] at hok;exact ⟨rfl,hok⟩
    refine ⟨htd,hnode.2,?_⟩;have hfd:=Aaz (G:=G2) (s:=s) (ps:=[]) (x:=getT G2 s) rfl hnode.1;have:=b5.vals s _ hfd;obtain ⟨j,_,_,h3,_⟩:=Ahk E f _ _ _ hs;rw [if_neg (by rw [h3];unfold lent;omega)] at this;exact this.symm
   have hSb:∃ rest,(T.blocksC (S.map (getT G2))++rest).Perm (Aa0 G2):=by
    obtain ⟨rest,hp⟩:=Af4 S G2 (Ah8 E f _ _);refine ⟨rest,?_⟩;rw [T.blocksC_eq,List.flatMap_map];exact hp
   obtain ⟨rest,hperm⟩:=hSb;have hvals:T.vals (S.map (getT G2))=T.vals (Aav E f 0 ts):=by
    rw [← Aqg E f (R:=fun s=>(ts.getD (s-1000000) noT).val) ts 0 (fun j u hj=>by
     have:lent (0+j)-1000000=j:=by unfold lent;omega
     simp only [this,List.getD_eq_getElem?_getD,hj,Option.getD_some])]
    rw [T.vals_eq,List.map_map];simp only [S,hds];refine List.map_congr_left fun s hs=>?_;exact (hS s (by simp only [S,hds];exact hs)).2.2
   have hblks:∀ t:T,t.blocks=T.blocksC rts->BlkOK M' w' (t.blocks++T.blocksC (S.map (getT G2)))/\Evo M (keys (T.blocksC ts)) w M' (keys (t.blocks++T.blocksC (S.map (getT G2)))) w':=fun t ht=>by
    have hpp:((T.blocksC rts++T.blocksC (S.map (getT G2)))++rest).Perm (Aa0 G2++(T.blocksC rts++[])):=by
     rw [List.append_nil,List.append_assoc];exact (List.Perm.append_left _ hperm).trans List.perm_append_comm
    rw [ht];refine ⟨b5.blk.sub_perm hpp,e1.weaken fun g hg=>?_⟩;have h1:=(hpp.map Prod.fst).mem_iff.1 (by rw [List.map_append];exact List.mem_append_left _ hg);have h2:=b6 g h1;simpa [keys] using h2
   have herase:(S.map (getT G2)).map T.erase=(Ac3 E f 0 ds.length).map (get F2):=by
    rw [List.map_map];exact List.map_congr_left fun s _=>(b5.get s).symm
   have done:∀ t:T,t.erase=Ats rds->t.val=(oneV (T.vals rts))->t.tidy->Acp M' t->t.blocks=T.blocksC rts->_:=fun t h1 h2 h3 h4 h5=>by
    exact (⟨M',t,S.map (getT G2),by rw [h2],h1,h3,h4,herase,(fun o ho=>by
     obtain ⟨s,hs,rfl⟩:=List.mem_map.1 ho
     exact ⟨(hS s hs).1,(hS s hs).2.1⟩),hvals,(hblks t h5).1,b5.mem,(hblks t h5).2⟩:∃ M' t touts,Ending.returned (oneV (T.vals rts))=.returned t.val/\t.erase=Ats rds/\t.tidy/\Acp M' t/\touts.map T.erase=(Ac3 E f 0 ds.length).map (get F2)/\(∀ o∈touts,o.tidy/\T.wf M' o)/\T.vals touts=T.vals (Aav E f 0 ts) /\
    BlkOK M' w' (t.blocks++T.blocksC touts)/\Aar M' w'/\Evo M (keys (T.blocksC ts)) w M' (keys (t.blocks++T.blocksC touts)) w')
   by_cases h1:rts.length=1
   ·obtain ⟨t,rfl⟩:=List.length_eq_one_iff.1 h1;have hg:=b4 t (by simp);refine done t ?_ (by simp [T.vals,oneV]) b3.1 ?_ (by simp [T.blocksC])
    ·rw [← b1];rfl
    ·cases t<;>first | exact hg | exact hg.elim
   ·refine done (.tup rts) ?_ ?_ b3 (fun c hc=>b4 c hc) (by simp [T.blocks])
    ·rw [← b1];simp only [T.erase,T.eraseC_eq]
     match rts,h1 with
     | [],_=>rfl
     | [_],h1=>simp at h1
     | _::_::_,_=>rfl
    ·simp only [T.val]
     match rts,h1 with
     | [],_=>rfl
     | [_],h1=>simp at h1
     | _::_::_,_=>rfl
 refine hx _ _ _ _ _ _ _ hfit hgd (hp0.norm hV) fun e F a' w' q hp=>?_;cases e with
 | normal=>exact leave F a' w' q hp
 | ret=>exact leave F a' w' q hp
 | exit id=>exact q.elim
theorem Au8 {E:Env} (hE:EnvOK E):∀ (n:Nat),Abq E (Ab8 E n)
 | 0,f,ds,r,outs,h=>by simp [Ab8] at h
 | n+1,f,ds,r,outs,h=>by
  have ih:=Au8 hE n;simp only [Ab8] at h;cases hp:E.prim f with
  | some p=>
   rw [hp] at h;simp only at h;cases hpd:p ds with
   | some x=>
    simp only [hpd,zJ] at h;subst h;exact hE.prims f p ds _ _ hp hpd
   | none=>
    simp only [hpd] at h;cases hq:E.hand f with
    | none=>simp [hq] at h
    | some q=>
     simp only [hq] at h;exact hE.hands (Ab8 E n) ih f q ds r outs hq h
  | none=>
   simp only [hp] at h;cases hf:E.P.funcs[f]? with
   | none=>simp [hf] at h
   | some fd=>
    simp only [hf] at h;cases hb:fd.body with
    | none=>simp [hb] at h
    | some c=>
     simp only [hb] at h
     split at h
     case isFalse=>cases h
     rename_i hlen;obtain ⟨hfit,hres⟩:=hE.fits f fd c hf hp hb;obtain ⟨hv1,hv2⟩:=hE.vars f;have hds:(E.vars f++Ac3 E f 0 ds.length).Nodup:=by
      rw [List.nodup_append];refine ⟨hv1,Ah8 E f _ _,?_⟩;rintro x hx y hy rfl;obtain ⟨j,_,_,h3,_⟩:=Ahk E f _ _ _ hy;have:=hv2 x hx;unfold lent at h3;omega
     refine Amj hf (hE.name f fd hf hp) hb hfit hres hds hlen ?_;cases hx:Aae E f (E.vars f++Ac3 E f 0 ds.length) (Ab8 E n) n c (norm (E.vars f++Ac3 E f 0 ds.length) (Adj E f 0 ds)) with
     | none=>simp [hx] at h
     | some q=>
      obtain ⟨ex,F⟩:=q;rw [hx] at h;refine ToM.exec ih hE.mixed hds hx ?_;cases ex with
      | normal=>exact h
      | ret=>exact h
      | exit id=>simp at h
end
end Go.Own
