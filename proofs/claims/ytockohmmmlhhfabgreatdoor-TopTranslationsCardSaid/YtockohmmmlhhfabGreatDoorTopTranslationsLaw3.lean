/- What the functions answer. No conditions. -/
import Derived.Test.YtockohmmmlhhfabGreatDoorBase1
import Derived.Test.YtockohmmmlhhfabGreatDoorOwn30
set_option linter.all false
namespace Go.Own.Vio
open Go.Proofs D
set_option maxRecDepth 100000
set_option maxHeartbeats 4000000
abbrev bo (b:Bool):D:=.lit (.bool b)
abbrev i6 (i:Int):D:=.lit (.int .i64 i)
abbrev L1:Nat:=1000001
abbrev L2:Nat:=1000002
def opAt (ops:Array Oper) (i:Nat):Oper:=match ops[i]? with
 | some o=>o
 | none=>{ dst:=none,op:=.move (.const (.int .i64 0)),type:=0,guard:=none,pos:=default,after:=#[] }
section
variable {call:Nat->List D->Option (D×List D)}
theorem reg1 {f g:Nat} {V:List Nat} {ds:List D} {x:D×List D} {ops:Array Oper} {d:Bool} {F F':Fr} (hc:call g ds=some x) (h1:regC env f V (fun _ _=>some x) ops d F=some F') (h2:regQ env f V (fun _ _=>some x) ops d F=[(g,ds)]):regC env f V call ops d F=some F':=
 Bgi (fun q hq y hy=>by
  rw [h2,List.mem_singleton] at hq;subst hq;simp only [zJ] at hy;subst hy
  exact hc) h1
theorem reg_list {f:Nat} {V:List Nat} {F F':Fr} {ops:Array Oper} (l:List Nat) (hr:List.range ops.size=l) (h:(opsC env f V call ops l F).map (norm V)=some F'):regC env f V call ops false F=some F':=by
 simp only [regC,Bool.false_eq_true,if_false,hr];exact h
theorem st_op {f:Nat} {V:List Nat} {F F1 F':Fr} {ops:Array Oper} {i:Nat} {l:List Nat} {o:Oper} (hi:ops[i]? = some o) (hw:wantedD ops F o=some true) (h:opC env f V call F o=some F1) (k:(opsC env f V call ops l F1).map (norm V)=some F'):(opsC env f V call ops (i::l) F).map (norm V)=some F':=by
 rw [Azp hi hw h];exact k
theorem st_val {f:Nat} {V:List Nat} {F F':Fr} {ops:Array Oper} {i:Nat} {l:List Nat} {o:Oper} {d:D} (hi:ops[i]? = some o) (hw:wantedD ops F o=some true) (h:valC env f call F o=some d) (k:(opsC env f V call ops l (fin F o.dst d)).map (norm V)=some F'):(opsC env f V call ops (i::l) F).map (norm V)=some F':=
 st_op hi hw (Aph h) k
theorem st_run {f:Nat} {V:List Nat} {F F1 F':Fr} {ops:Array Oper} {l:List Nat} (l1 l2:List Nat) (hl:l=l1++l2) (h:opsC env f V call ops l1 F=some F1) (k:(opsC env f V call ops l2 F1).map (norm V)=some F'):(opsC env f V call ops l F).map (norm V)=some F':=by
 rw [hl,Alj h];exact k
theorem runN {n f N:Nat} {V W:List Nat} {cd:Code} {F F':Fr} {Q:Ex->Fr->Prop} (hcall:Abq env call) (hm:env.P.follows .mixedOrders=true) (hV:V.Nodup) (hW:W.Nodup) (h:(Aae env f V call N cd F).map (fun x=>(x.1,norm W x.2))=some (.normal,F')) (k:∀ F1,norm W F1=F'->Q .normal F1):ToM env n cd F Q:=by
 obtain ⟨x,h1,h2⟩:=Option.map_eq_some_iff.1 h;obtain ⟨e,F1⟩:=x;simp only [Prod.mk.injEq] at h2;obtain ⟨rfl,h2⟩:=h2;exact ToM.exec hcall hm hV h1 (k F1 h2)
end
theorem infos:Tryz.prog.underlying 143=some (.array 3 2)/\Tryz.prog.underlying 56=some (.slice 2)/\(Tryz.prog.info? 2).map (·.size)=some 1/\mapT Tryz.prog 140=some (143,4)/\sliceT Tryz.prog 45=some 56/\sizeT Tryz.prog 56=1/\bytesT Tryz.prog 56=24/\rowT Tryz.prog 45=true/\(Tryz.prog.info? 45).isSome=true:=by
 refine ⟨by kernel_rfl,by kernel_rfl,by kernel_rfl,by kernel_rfl,by kernel_rfl,by kernel_rfl,by kernel_rfl,by kernel_rfl,by kernel_rfl⟩
theorem kb3 (a b:K3):keyBeq (k3V a) (k3V b)=decide (a=b):=by
 have h1:∀ q:IntKind,(q == q)=true:=fun q=>by cases q<;>rfl
 obtain ⟨a1,a2,a3⟩:=a;obtain ⟨b1,b2,b3⟩:=b;simp only [k3V,keyBeq,cellBeq,List.zip_cons_cons,List.zip_nil_right,List.all_cons,List.all_nil,h1,Bool.true_and,Bool.and_true];by_cases e1:a1=b1<;>by_cases e2:a2=b2<;>by_cases e3:a3=b3<;>simp [e1,e2,e3]
abbrev fV (m:List (K3×Bool)) (o:List (List Int)) (d:D):Fr:=[(1,.alias L1 []),(2,.alias L2 []),(4,bo false),(5,d),(L1,.box [Abd m]),(L2,.box [outE o])]
abbrev fE (m:List (K3×Bool)) (o:List (List Int)):Fr:=[(2,.alias L2 []),(L1,.box [Abd m]),(L2,.box [outE o])]
def W0:List Nat:=[1,2,4,5,L1,L2]
def W1:List Nat:=[1,2,4,5,8,L1,L2]
abbrev kE (x y z:Int):D:=.box [i6 x,i6 y,i6 z]
abbrev fK (m:List (K3×Bool)) (o:List (List Int)) (d:D) (x y z:Int):Fr:=[(1,.alias L1 []),(2,.alias L2 []),(4,bo false),(5,d),(8,kE x y z),(L1,.box [Abd m]),(L2,.box [outE o])]
def VB:List Nat:=[0,1,2,4,5,7,9,10,11,12,L1,L2]
theorem vis_end {call:Nat->List D->Option (D×List D)} (hcall:Abq env call) (hm:env.P.follows .mixedOrders=true) {n:Nat} {m:List (K3×Bool)} {o:List (List Int)} {ids:List Int} {x y z:Int} (ho:o.length<=1000000) (hk:key3 ids=(x,y,z)) {Q:Ex->Fr->Prop}
  (hQ:∀ F,get F 4=bo (visF ids m o).1->get F L1=.box [Abd (visF ids m o).2.1]->get F L2=.box [outE (visF ids m o).2.2]->Q .ret F) {r10 r11 r12 r13:Code} (e10:r10=.region 10 (Abo Tryz.f68 10) false) (e11:r11=.region 11 (Abo Tryz.f68 11) false) (e12:r12=.region 12 (Abo Tryz.f68 12) false) (e13:r13=.region 13 (Abo Tryz.f68 13) false) :
  ToM env n (.seq (.seq r10 (.cond (.tmp 29) (.seq r11 r12) .skip)) (.seq r13 .ret)) (fK m o (idsS ids) x y z) Q:=by
 have last:∀ (m':List (K3×Bool)) (o':List (List Int)),(decide (o'.length<=20000),m',o')=visF ids m o->ToM env n (.seq r13 .ret) (fE m' o') Q:=by
  intro m' o' he;rw [e13];refine ToM.seq (ToM.region hcall hm 68 [4,L1,L2] (by decide) [(4,bo (decide (((o'.map fun l=>[idsS l]).length:Int)<=20000))),(L1,.box [Abd m']),(L2,.box [outE o'])] (by kernel_rfl) (ToM.ret ?_));have hd:decide (((o'.map fun l=>[idsS l]).length:Int)<=20000)=decide (o'.length<=20000):=by
   rw [List.length_map,decide_eq_decide];omega
  refine hQ _ ?_ ?_ ?_
  ·rw [← he,hd];rfl
  ·rw [← he];rfl
  ·rw [← he];rfl
 rw [e10,e11,e12];refine ToM.seq (ToM.seq (ToM.region hcall hm 68 ([1,2,4,5,8,29,L1,L2]) (by decide) ([(1,.alias L1 []),(2,.alias L2 []),(4,bo false),(5,idsS ids),(8,kE x y z),(29,bo (!(Ajl (x,y,z) m false))),(L1,.box [Abd m]),(L2,.box [outE o])]) ?_ ?_))
 ·refine reg_list [0,1,2,3] (by kernel_rfl) (st_run (F1:=fK m o (idsS ids) x y z++[(26,.alias L1 [(0,0)]),(27,.agg [i6 x,i6 y,i6 z])]) [0,1] [2,3] rfl (by kernel_rfl) (st_val (o:=opAt (Abo Tryz.f68 10) 2) (by kernel_rfl) rfl (Avc kb3 (fun a=>by kernel_rfl) (ek:=k3V) (ev:=fun b=>bo b) (t:=140) (x:=.tmp 26) (kx:=.tmp 27) (s:=L1) (ps:=[(0,0)]) (l:=m) (kd:=.agg [i6 x,i6 y,i6 z]) (kv:=(x,y,z)) (kt:=143) (vt:=4) (v0:=false) (by kernel_rfl) (by kernel_rfl) (by kernel_rfl) (by kernel_rfl) (by kernel_rfl) infos.2.2.2.1 (by kernel_rfl) rfl) (by kernel_rfl)))
 cases hs:Ajl (x,y,z) m false with
 | true=>
  refine ToM.cond (t:=false) (by kernel_rfl) (fun h=>by cases h) (fun _=>ToM.skip ?_);refine ToM.normed (V:=[2,L1,L2]) (by decide) (fE m o) (by kernel_rfl) (last m o ?_);unfold visF;rw [hk,hs,if_pos rfl]
 | false=>
  have hv:visF ids m o=(decide (o.length+1<=20000),mset (x,y,z) true m,o++[ids]):=by
   unfold visF;rw [hk,hs,if_neg (by decide)]
  refine ToM.cond (t:=true) (by kernel_rfl) (fun _=>?_) (fun h=>by cases h);refine ToM.seq (ToM.region hcall hm 68 [1,2,5,L1,L2] (by decide) [(1,.alias L1 []),(2,.alias L2 []),(5,idsS ids),(L1,.box [Abd (mset (x,y,z) true m)]),(L2,.box [outE o])] ?_ ?_)
  ·refine reg_list [0,1,2] (by kernel_rfl) (st_run (F1:=[(1,.alias L1 []),(2,.alias L2 []),(4,bo false),(5,idsS ids),(8,kE x y z),(29,bo true),(L1,.box [Abd m]),(L2,.box [outE o]),(30,.alias L1 [(0,0)]),(31,.agg [i6 x,i6 y,i6 z])]) [0,1] [2] rfl (by kernel_rfl) (st_op (o:=opAt (Abo Tryz.f68 11) 2) (by kernel_rfl) rfl (Av1 kb3 (fun a=>by kernel_rfl) (ek:=k3V) (ev:=fun b=>bo b) (t:=140) (mx:=.tmp 30) (kx:=.tmp 31) (vx:=.const (.bool true)) (s:=L1) (ps:=[(0,0)]) (l:=m) (kd:=.agg [i6 x,i6 y,i6 z]) (kv:=(x,y,z)) (kt:=143) (vt:=4) (v:=true) (d:=bo true) (F1:=[(1,.alias L1 []),(2,.alias L2 []),(4,bo false),(5,idsS ids),(8,kE x y z),(29,bo true),(L1,.box [Abd (mset (x,y,z) true m)]),(L2,.box [outE o]),(30,.alias L1 [(0,0)]),(31,.agg [i6 x,i6 y,i6 z])]) (by kernel_rfl) (by kernel_rfl) (by kernel_rfl) (by kernel_rfl) (by kernel_rfl) infos.2.2.2.1 (by kernel_rfl) (by kernel_rfl) rfl (by kernel_rfl)) (by kernel_rfl)))
  refine ToM.region hcall hm 68 [2,L1,L2] (by decide) (fE (mset (x,y,z) true m) (o++[ids])) ?_ (last _ _ (by rw [hv,List.length_append];rfl))
  ·refine reg_list [0,1,2,3,4] (by kernel_rfl) (st_run (F1:=[(1,.alias L1 []),(2,.alias L2 []),(5,idsS ids),(L1,.box [Abd (mset (x,y,z) true m)]),(L2,.box [outE o]),(32,.alias L2 [(0,0)]),(33,idsS ids),(34,.own [[idsS ids]])]) [0,1,2] [3,4] rfl (by kernel_rfl) (st_op (o:=opAt (Abo Tryz.f68 12) 3) (by kernel_rfl) rfl (Amr (l:=o) (m:=[ids]) (e:=fun l=>[idsS l]) (k:=1) (c:=24) (x:=.tmp 32) (y:=.tmp 34) (t:=45) (u:=45) (et:=56) (z:=.own []) (by kernel_rfl) infos.2.2.2.2.2.2.2.1 infos.2.2.2.2.1 (by kernel_rfl) rfl
    (F1:=[(1,.alias L1 []),(2,.alias L2 []),(5,idsS ids),(L1,.box [Abd (mset (x,y,z) true m)]),(L2,.box [.undef]),(32,.undef),(33,idsS ids),(34,.own [[idsS ids]])]) (F2:=[(1,.alias L1 []),(2,.alias L2 []),(5,idsS ids),(L1,.box [Abd (mset (x,y,z) true m)]),(L2,.box [.undef]),(32,.undef),(33,idsS ids),(34,.own [[idsS ids]])]) (by kernel_rfl) (by kernel_rfl) infos.2.2.2.2.2.1 rfl infos.2.2.2.2.2.2.1 rfl (fun _=>rfl) (by simp;omega)) (by kernel_rfl)))
theorem fnokVis {call:Nat->List D->Option (D×List D)} (hcall:Abq env call) {ds:List D} {r:D} {outs:List D} (h:runAsk call (Ai9 69 ds)=some (r,outs)):FnOK env 68 ds r outs:=by
 obtain ⟨rs,m,o,ids,rfl,hrs,ho,hids,hsort,rfl,rfl⟩:=Axl h;clear h;have hB:Ah6 Tryz.f68=true:=by kernel_rfl
 have hm:env.P.follows .mixedOrders=true:=by kernel_rfl
 have hnt:Tryz.f68.ntmps=39:=by kernel_rfl
 obtain ⟨q1,q2,q3⟩:=Ap2 (fd:=Tryz.f68) (c:=(Tryz.f68.body).getD .skip) (by kernel_rfl) hB;have hlen:(Nat.ble 3 Tryz.f68.ntmps&&Nat.blt Tryz.f68.ntmps 1000000)=true:=by kernel_rfl
 rw [Bool.and_eq_true] at hlen;refine Amj (fd:=Tryz.f68) (c:=(Tryz.f68.body).getD .skip) (V:=[0,1,2,L1,L2]) (by kernel_rfl) q1 (by kernel_rfl) q2 q3 (by decide) ⟨Nat.le_of_ble_eq_true hlen.1,Nat.le_of_ble_eq_true hlen.2⟩ ?_;have hb0:norm [0,1,2,L1,L2] (Adj env 68 0 [.sl (rs.map rowD),.box [Abd m],.box [outE o]])=[(0,.sl (rs.map rowD)),(1,.alias L1 []),(2,.alias L2 []),(L1,.box [Abd m]),(L2,.box [outE o])]:=by kernel_rfl
 rw [hb0,hnt];have hlv:∀ F:Fr,get F 4=bo (visF ids m o).1->get F L1=.box [Abd (visF ids m o).2.1]->get F L2=.box [outE (visF ids m o).2.2]->Ak8 env 68 Tryz.f68 [D.sl (rs.map rowD),.box [Abd m],.box [outE o]].length (bo (visF ids m o).1) [.box [Abd (visF ids m o).2.1],.box [outE (visF ids m o).2.2]] .ret F:=by
  intro F h4 h1 h2;show Af0 env 68 Tryz.f68 3 F=_;have hr:Tryz.f68.results.toList=[ResultVar.tmp 4]:=by kernel_rfl
  have hl:Ac3 env 68 0 3=[L1,L2]:=by kernel_rfl
  simp only [Af0,hr,Ad8,resC,takeOp,h4,takeSlot,hl,List.map_cons,List.map_nil,h1,h2,List.all_cons,List.all_nil,node1,Ats,Bool.and_true,if_true]
 generalize Ak8 env 68 Tryz.f68 [D.sl (rs.map rowD),.box [Abd m],.box [outE o]].length (bo (visF ids m o).1) [.box [Abd (visF ids m o).2.1],.box [outE (visF ids m o).2.2]]=Q0 at hlv ⊢;have hne:ids≠[]:=fun h=>by rw [h] at hids;simp at hids;omega
 have hl3:ids.length<=2:=by omega
 have rest:∀ {r7 r8 r9 r10 r11 r12 r13:Code},r7=.region 7 (Abo Tryz.f68 7) false->r8=.region 8 (Abo Tryz.f68 8) false->r9=.region 9 (Abo Tryz.f68 9) false->r10=.region 10 (Abo Tryz.f68 10) false->r11=.region 11 (Abo Tryz.f68 11) false->r12=.region 12 (Abo Tryz.f68 12) false->r13=.region 13 (Abo Tryz.f68 13) false ->
   ToM env 39 (.seq r7 (.seq r8 (.seq r9 (.seq (.seq r10 (.cond (.tmp 29) (.seq r11 r12) .skip)) (.seq r13 .ret))))) (fV m o (idsD (rs.map (·.1)))) Q0:=by
  intro r7 r8 r9 r10 r11 r12 r13 e7 e8 e9 e10 e11 e12 e13;rw [e7,e8,e9];have h7:regC env 68 W0 call (Abo Tryz.f68 7) false (fV m o (idsD (rs.map (·.1))))=some (fV m o (idsD ids)):=by
   clear hlv;rcases ids with _ | ⟨x,_ | ⟨y,_ | ⟨_,_⟩⟩⟩
   ·exact absurd rfl hne
   ·exact reg1 hsort (by kernel_rfl) (by kernel_rfl)
   ·exact reg1 hsort (by kernel_rfl) (by kernel_rfl)
   ·simp at hl3
  refine ToM.seq (ToM.region hcall hm 68 W0 (by decide) (fV m o (idsD ids)) h7 ?_);refine ToM.seq (ToM.region hcall hm 68 W1 (by decide) (fK m o (idsD ids) 0 0 0) (by kernel_rfl) ?_);obtain ⟨x,y,z,hk,hcells,hchill⟩:∃ x y z,key3 ids=(x,y,z)/\(ids.map (Value.int .i64)++[Value.int .i64 0,.int .i64 0,.int .i64 0].drop ids.length).map D.lit=[i6 x,i6 y,i6 z] /\
    chillAll [(5,1000)] (killF (Ad9 8 5) (put0 (put0 (fK m o (idsD ids) 0 0 0) 8 (.box [i6 x,i6 y,i6 z])) 5 (idsD ids)))=fK m o (idsS ids) x y z:=by
   clear hsort hlv hids;rcases ids with _ | ⟨x,_ | ⟨y,_ | ⟨_,_⟩⟩⟩
   ·exact absurd rfl hne
   ·exact ⟨x,0,0,rfl,rfl,by kernel_rfl⟩
   ·exact ⟨x,y,0,rfl,rfl,by kernel_rfl⟩
   ·simp at hl3
  refine ToM.seq (ToM.ofX (WX.region [0,1,2] (by kernel_rfl) (WX.copy (o0:=opAt (Abo Tryz.f68 9) 0) (o1:=opAt (Abo Tryz.f68 9) 1) (o2:=opAt (Abo Tryz.f68 9) 2) (by kernel_rfl) (by kernel_rfl) (by kernel_rfl) (by kernel_rfl) (by kernel_rfl) (by kernel_rfl) (kt:=143) (s1:=8) (s2:=5) (d0:=23) (d1:=24) (d2:=25) (t:=56) (e:=2) (by kernel_rfl) (by kernel_rfl) (by kernel_rfl) (by kernel_rfl) (by kernel_rfl) (by kernel_rfl) (by decide) (by decide) (by decide) (by decide) (by simp [L1,L2]) (l:=[Value.int .i64 0,.int .i64 0,.int .i64 0]) hne (by simp;omega) (by simp [Value.oneCell']) infos.1 infos.2.1 infos.2.2.1 (by kernel_rfl) (by kernel_rfl) ?_)));rw [hcells];exact WX.chill [(5,1000)] (F':=fK m o (idsS ids) x y z) hchill (WX.nil (vis_end hcall hm ho hk hlv e10 e11 e12 e13))
 unfold Tryz.f68;simp only [Option.getD_some];refine ToM.seq (ToM.region hcall hm 68 [0,1,2,4,L1,L2] (by decide) [(0,.sl (rs.map rowD)),(1,.alias L1 []),(2,.alias L2 []),(4,bo false),(L1,.box [Abd m]),(L2,.box [outE o])] (by kernel_rfl) ?_);refine ToM.seq (ToM.region hcall hm 68 [0,1,2,4,5,L1,L2] (by decide) [(0,.sl (rs.map rowD)),(1,.alias L1 []),(2,.alias L2 []),(4,bo false),(5,.own []),(L1,.box [Abd m]),(L2,.box [outE o])] (by kernel_rfl) ?_);refine ToM.seq ?_;rcases rs with _ | ⟨p,_ | ⟨q,_ | ⟨_,_⟩⟩⟩
 ·simp at hrs
 ·refine runN (f:=68) (N:=10) (V:=VB) (W:=W0) hcall hm (by decide) (by decide) (F':=fV m o (idsD [p.1])) (by kernel_rfl) fun F1 h1=>?_;exact ToM.normed (by decide) _ h1 (rest (by kernel_rfl) (by kernel_rfl) (by kernel_rfl) (by kernel_rfl) (by kernel_rfl) (by kernel_rfl) (by kernel_rfl))
 ·refine runN (f:=68) (N:=10) (V:=VB) (W:=W0) hcall hm (by decide) (by decide) (F':=fV m o (idsD [p.1,q.1])) (by kernel_rfl) fun F1 h1=>?_;exact ToM.normed (by decide) _ h1 (rest (by kernel_rfl) (by kernel_rfl) (by kernel_rfl) (by kernel_rfl) (by kernel_rfl) (by kernel_rfl) (by kernel_rfl))
 ·simp at hrs
theorem ops1 {call:Nat->List D->Option (D×List D)} {f g:Nat} {V:List Nat} {ds:List D} {x:D×List D} {ops:Array Oper} {l:List Nat} {F F':Fr} (W:List Nat) (hc:call g ds=some x) (h1:(opsC env f V (fun _ _=>some x) ops l F).map (norm W)=some F') (h2:opsQ env f V (fun _ _=>some x) ops l F=[(g,ds)]):(opsC env f V call ops l F).map (norm W)=some F':=by
 obtain ⟨F1,h3,h4⟩:=Option.map_eq_some_iff.1 h1;rw [Ams (fun q hq y hy=>by
  rw [h2,List.mem_singleton] at hq;subst hq;simp only [zJ] at hy;subst hy
  exact hc) h3]
 rw [Option.map_some,h4]
abbrev M1:Nat:=1000004
abbrev M2:Nat:=1000005
abbrev tabD (nm:ByteArray) (ats:List (List D)) (all:List RowP):D:=.agg [.lit (.string nm),.sl ats,.sl (all.map rowD)]
abbrev denD (vars:Int) (atoms:List (List D)):D:=.agg [i6 vars,.sl atoms]
abbrev tabB (nm:ByteArray) (ats:List (List D)) (all:List RowP):D:=.box [.lit (.string nm),.sl ats,.sl (all.map rowD)]
abbrev denB (vars:Int) (atoms:List (List D)):D:=.box [i6 vars,.sl atoms]
abbrev cloF:D:=.fn 68 [.alias M1 [],.alias M2 []]
def qV:VF:=⟨66,87,88,89,90,68,70,71⟩
abbrev fA (nm:ByteArray) (ats:List (List D)) (all:List RowP) (vars:Int) (atoms:List (List D)) (rows:List RowP) (a:List (Value×D)) (b:List (List D)):Fr:=[(2,.sl (rows.map rowD)),(3,cloF),(4,tabB nm ats all),(5,denB vars atoms),(8,bo false),(M1,.box [.map a]),(M2,.box [.own b])]
def VA:List Nat:=[2,3,4,5,8,M1,M2]
abbrev fL (nm:ByteArray) (ats:List (List D)) (all:List RowP) (vars:Int) (atoms:List (List D)) (rows:List RowP) (i:Nat) (a:List (Value×D)) (b:List (List D)):Fr:=[(2,.sl (rows.map rowD)),(3,cloF),(4,tabB nm ats all),(5,denB vars atoms),(27,.sl (all.map rowD)),(28,i6 (all.map rowD).length),(29,i6 i),(M1,.box [.map a]),(M2,.box [.own b])]
def VL:List Nat:=[2,3,4,5,27,28,29,M1,M2]
theorem wr (i:Nat) (h:i<1000000000):IntKind.i64.wrap ((i:Int)+1)=((i+1:Nat):Int):=by
 rw [IntKind.wrap_i64];omega
theorem rinfos:sliceT Tryz.prog 31=some 89/\sizeT Tryz.prog 89=2:=by
 refine ⟨by kernel_rfl,by kernel_rfl⟩
abbrev fD (nm:ByteArray) (ats:List (List D)) (all:List RowP) (vars:Int) (atoms:List (List D)) (rows:List RowP) (i:Nat) (d:D) (x y:D):Fr:=[(2,.sl (rows.map rowD)),(3,cloF),(4,tabB nm ats all),(5,denB vars atoms),(27,.sl (all.map rowD)),(28,i6 (all.map rowD).length),(29,i6 i),(36,tabD nm ats all),(37,denD vars atoms),(42,d),(43,cloF),(M1,x),(M2,y)]
def VD:List Nat:=[2,3,4,5,27,28,29,36,37,42,43,M1,M2]
noncomputable def ops7:Array Oper:=Abo Tryz.f67 7
theorem deep {call:Nat->List D->Option (D×List D)} (hcall:Abq env call) {nm:ByteArray} {ats atoms:List (List D)} {all:List RowP} {vars:Int} {rows rs:List RowP} {p:RowP} {i:Nat} {a a1:List (Value×D)} {b b1:List (List D)} {zb:Bool} (hrs:rs.length=rows.length) (hr1:rows.length<=1) (hcn:call 90 [.sl (rows.map rowD)]=some (.own (rs.map rowD),[]))
  (hclo:Apj env 67 68 [tabD nm ats all,denD vars atoms,.sl ((rs++[p]).map rowD)] (.box [.map a]) (.box [.own b]) (.bool zb) (.box [.map a1]) (.box [.own b1])) {r7 r8:Code} (e7:r7=.region 7 ops7 true) (e8:r8=.region 8 (Abo Tryz.f67 8) false) {Q:Ex->Fr->Prop}
  (h1:zb=true->∀ F,norm VL F=fL nm ats all vars atoms rows i a1 b1->Q .normal F) (h2:zb=false->Q .ret [(8,bo false),(M1,.box [.map a1]),(M2,.box [.own b1])]) :
  ToM env 47 (.seq r7 (.cond (.tmp 45) (.seq r8 .ret) .skip)) (fL nm ats all vars atoms rows i a b++[(10,.box (rowD p)),(35,bo false)]) Q:=by
 have hm:env.P.follows .mixedOrders=true:=by kernel_rfl
 have hd:∃ Fend,Abz env 67 VD call (ops7.extract 0 8) (List.range (ops7.extract 0 8).size) [] (Abc (fL nm ats all vars atoms rows i a b++[(10,.box (rowD p)),(35,bo false)]) (ops7.extract 0 8).toList)=some Fend/\chillAll [(42,1000)] (norm VD Fend)=fD nm ats all vars atoms rows i (.sl ((rs++[p]).map rowD)) (.box [.map a]) (.box [.own b]):=by
  clear hclo;have go:∀ (x:D×List D),call 90 [.sl (rows.map rowD)]=some x->∀ G,(Abz env 67 VD (fun _ _=>some x) (ops7.extract 0 8) (List.range (ops7.extract 0 8).size) [] (Abc (fL nm ats all vars atoms rows i a b++[(10,.box (rowD p)),(35,bo false)]) (ops7.extract 0 8).toList)).map (fun F=>chillAll [(42,1000)] (norm VD F))=some G->Ajf env 67 VD (fun _ _=>some x) (ops7.extract 0 8) (List.range (ops7.extract 0 8).size) [] (Abc (fL nm ats all vars atoms rows i a b++[(10,.box (rowD p)),(35,bo false)]) (ops7.extract 0 8).toList)=[(90,[.sl (rows.map rowD)])] ->
    ∃ Fend,Abz env 67 VD call (ops7.extract 0 8) (List.range (ops7.extract 0 8).size) [] (Abc (fL nm ats all vars atoms rows i a b++[(10,.box (rowD p)),(35,bo false)]) (ops7.extract 0 8).toList)=some Fend/\chillAll [(42,1000)] (norm VD Fend)=G:=by
   intro x hx G k1 k2;obtain ⟨F1,h3,h4⟩:=Option.map_eq_some_iff.1 k1;refine ⟨F1,Ai7 (fun q hq y hy=>?_) h3,h4⟩;rw [k2,List.mem_singleton] at hq;subst hq;simp only [zJ] at hy;subst hy;exact hx
  rcases rs with _ | ⟨r0,_ | ⟨_,_⟩⟩
  ·exact go _ hcn _ (by kernel_rfl) (by kernel_rfl)
  ·exact go _ hcn _ (by kernel_rfl) (by kernel_rfl)
  ·simp at hrs;omega
 obtain ⟨Fend,hd,hch⟩:=hd;rw [e7,e8];refine ToM.seq (ToM.ofX (ToMX.cut hcall hm 67 VD 8 (by kernel_rfl) (by kernel_rfl) (by kernel_rfl) (by kernel_rfl) (by kernel_rfl) (by kernel_rfl) Fend hd ?_));refine WX.normed (V:=VD) (by decide) _ rfl (WX.chill [(42,1000)] hch ?_);have hrange:List.range' 8 (ops7.size-8)=[8,9]:=by kernel_rfl
 rw [hrange];refine WX.clo (o:=opAt ops7 8) (by kernel_rfl) (by kernel_rfl) (c:={ callee:=.value (.func 67),args:=#[.tmp 36,.tmp 37,.tmp 42,.tmp 43],argTypes:=#[33,100,31,144] }) (by kernel_rfl) (g:=67) rfl (xs:=[.tmp 36,.tmp 37,.tmp 42]) (y:=.tmp 43) rfl (by intro t ht;cases ht;decide) (v1:=68) (s1:=M1) (s2:=M2) (ds:=[tabD nm ats all,denD vars atoms,.sl ((rs++[p]).map rowD)])
  ⟨⟨by intro t ht;cases ht;decide,tabD nm ats all,by kernel_rfl,by kernel_rfl,by kernel_rfl⟩,⟨by intro t ht;cases ht;decide,denD vars atoms,by kernel_rfl,by kernel_rfl,by kernel_rfl⟩,⟨by intro t ht;cases ht;decide,.sl ((rs++[p]).map rowD),by kernel_rfl,by kernel_rfl,by kernel_rfl⟩,trivial⟩ (by kernel_rfl) (by decide) (by kernel_rfl) (by kernel_rfl) (v:=.bool zb) rfl (o1:=.box [.map a1]) (o2:=.box [.own b1]) rfl rfl (by intro d hd;cases hd;decide) hclo ?_
 refine WX.runV hcall 67 (VL++[45]) [9] [] rfl (by decide) (F1:=fL nm ats all vars atoms rows i a1 b1++[(45,bo (!zb))]) (by kernel_rfl) (WX.nil ?_);refine ToM.cond (t:=!zb) (by kernel_rfl) (fun h=>?_) (fun h=>ToM.skip (h1 (by simpa using h) _ (by kernel_rfl)));exact ToM.seq (ToM.region hcall hm 67 [8,M1,M2] (by decide) [(8,bo false),(M1,.box [.map a1]),(M2,.box [.own b1])] (by kernel_rfl) (ToM.ret (h2 (by simpa using h))))
theorem visit_ok {call:Nat->List D->Option (D×List D)} (hcall:Abq env call) {nm:ByteArray} {ats atoms:List (List D)} {all:List RowP} {vars:Int} (hall:all.length<=1000000) (hvars:vars<=2):∀ {n:Nat} {rows:List RowP} {a:List (Value×D)} {b:List (List D)} {z:VRes},VisR call qV atoms all n rows (.box [.map a]) (.box [.own b]) z->((rows.length+n:Nat):Int)=vars ->
  ∃ a' b',z.2.1=.box [.map a']/\z.2.2=.box [.own b']/\Apj env 67 68 [tabD nm ats all,denD vars atoms,.sl (rows.map rowD)] (.box [.map a]) (.box [.own b]) (.bool z.1) z.2.1 z.2.2:=by
 have hB:Ah6 Tryz.f67=true:=by kernel_rfl
 have hm:env.P.follows .mixedOrders=true:=by kernel_rfl
 have hnt:Tryz.f67.ntmps=47:=by kernel_rfl
 obtain ⟨q1,q2,q3⟩:=Ap2 (fd:=Tryz.f67) (c:=(Tryz.f67.body).getD .skip) (by kernel_rfl) hB;have hlen:(Nat.ble 4 Tryz.f67.ntmps&&Nat.blt Tryz.f67.ntmps 1000000)=true:=by kernel_rfl
 rw [Bool.and_eq_true] at hlen;have hlv:∀ (z:VRes) (F:Fr),get F 8=bo z.1->get F M1=z.2.1->get F M2=z.2.2->Ai6 env Tryz.f67 3 (.bool z.1) z.2.1 z.2.2 .ret F:=by
  intro z F h8 h1 h2;have hr:Tryz.f67.results.toList=[ResultVar.tmp 8]:=by kernel_rfl
  refine ⟨F,?_,h1,h2⟩;simp only [hr,Ad8,resC,takeOp,h8,takeSlot]
 have start:∀ {rows:List RowP} {a:List (Value×D)} {b:List (List D)} {z:VRes} {a':List (Value×D)} {b':List (List D)},z.2.1=.box [.map a']->z.2.2=.box [.own b']->ToM env 47 ((Tryz.f67.body).getD .skip) [(0,tabD nm ats all),(1,denD vars atoms),(2,.sl (rows.map rowD)),(3,cloF),(M1,.box [.map a]),(M2,.box [.own b])] (Ai6 env Tryz.f67 3 (.bool z.1) z.2.1 z.2.2) ->
   Apj env 67 68 [tabD nm ats all,denD vars atoms,.sl (rows.map rowD)] (.box [.map a]) (.box [.own b]) (.bool z.1) z.2.1 z.2.2:=by
  intro rows a b z a' b' e1 e2 h;refine Bap (fd:=Tryz.f67) (c:=(Tryz.f67.body).getD .skip) (V:=[0,1,2,3,M1,M2]) (by kernel_rfl) q1 (by kernel_rfl) q2 q3 (by decide) ⟨Nat.le_of_ble_eq_true hlen.1,Nat.le_of_ble_eq_true hlen.2⟩ (by simp) (by simp) (by rw [e1];rfl) (by rw [e2];rfl) ?_;have hb0:norm [0,1,2,3,M1,M2] (Ama 68 [tabD nm ats all,denD vars atoms,.sl (rows.map rowD)] (.box [.map a]) (.box [.own b]))=[(0,tabD nm ats all),(1,denD vars atoms),(2,.sl (rows.map rowD)),(3,cloF),(M1,.box [.map a]),(M2,.box [.own b])]:=by kernel_rfl
  rw [hb0,hnt];exact h
 intro n
 induction n with
 | zero=>
  intro rows a b z hz hv;have hz:Ax0 call qV atoms rows (.box [.map a]) (.box [.own b]) z:=hz;have hq:(((rows.map rowD).length:Int) == vars)=true:=by rw [List.length_map,beq_iff_eq];omega
  rcases hz with ⟨hs,rfl⟩ | ⟨hs,a',b',e1,e2,hvis⟩
  ·refine ⟨a,b,rfl,rfl,start rfl rfl ?_⟩;have hlv:=hlv (true,.box [.map a],.box [.own b]);generalize Ai6 env Tryz.f67 3 (.bool true) (.box [.map a]) (.box [.own b])=Q0 at hlv ⊢;unfold Tryz.f67;simp only [Option.getD_some];refine ToM.seq (ToM.region hcall hm 67 VA (by decide) (fA nm ats all vars atoms rows a b) (by kernel_rfl) ?_);refine ToM.seq (ToM.seq (ToM.region hcall hm 67 (VA++[15]) (by decide) (fA nm ats all vars atoms rows a b++[(15,bo (((rows.map rowD).length:Int) == vars))]) (by kernel_rfl) ?_));refine ToM.cond (t:=(((rows.map rowD).length:Int) == vars)) (by kernel_rfl) (fun _=>?_) (fun h=>by rw [hq] at h;cases h);refine ToM.seq (ToM.region hcall hm 67 [8,M1,M2] (by decide) [(8,bo true),(M1,.box [.map a]),(M2,.box [.own b])] (reg1 hs (by kernel_rfl) (by kernel_rfl)) (ToM.ret (hlv _ rfl rfl rfl)))
  ·refine ⟨a',b',e1,e2,start e1 e2 ?_⟩;obtain ⟨zb,z1,z2⟩:=z;simp only at e1 e2 hvis;subst e1 e2;have hlv:=hlv (zb,.box [.map a'],.box [.own b']);simp only at hlv ⊢;generalize Ai6 env Tryz.f67 3 (.bool zb) (.box [.map a']) (.box [.own b'])=Q0 at hlv ⊢;unfold Tryz.f67;simp only [Option.getD_some];refine ToM.seq (ToM.region hcall hm 67 VA (by decide) (fA nm ats all vars atoms rows a b) (by kernel_rfl) ?_);refine ToM.seq (ToM.seq (ToM.region hcall hm 67 (VA++[15]) (by decide) (fA nm ats all vars atoms rows a b++[(15,bo (((rows.map rowD).length:Int) == vars))]) (by kernel_rfl) ?_));refine ToM.cond (t:=(((rows.map rowD).length:Int) == vars)) (by kernel_rfl) (fun _=>?_) (fun h=>by rw [hq] at h;cases h);refine ToM.seq (ToM.ofX (WX.region [0,1,2,3,4,5,6,7,8,9,10] (by kernel_rfl) (WX.runV hcall 67 [21,22,23,M1,M2] [0,1,2,3,4,5,6,7] [8,9,10] rfl (by decide) (F1:=[(21,bo false),(22,cloF),(23,.sl (rows.map rowD)),(M1,.box [.map a]),(M2,.box [.own b])]) (ops1 (V:=[21,22,23,M1,M2]) _ hs (by kernel_rfl) (by kernel_rfl)) ?_)));refine WX.self (o:=opAt (Abo Tryz.f67 2) 8) (by kernel_rfl) (by kernel_rfl) (c:={ callee:=.value (.tmp 22),args:=#[.tmp 23],argTypes:=#[31] }) (by kernel_rfl) (y:=.tmp 22) rfl (x:=.tmp 23) rfl (by intro t ht;cases ht;decide) (v1:=68) (s1:=M1) (s2:=M2) (d:=.sl (rows.map rowD)) ⟨⟨by intro t ht;cases ht;decide,.sl (rows.map rowD),by kernel_rfl,by kernel_rfl,by kernel_rfl⟩,trivial⟩ (by kernel_rfl) (by decide) (by kernel_rfl) (by kernel_rfl) (by simp) (by simp) (v:=.bool zb) rfl (o1:=.box [.map a']) (o2:=.box [.own b']) rfl rfl (by intro d hd;cases hd;decide) (by decide) (by kernel_rfl) (by kernel_rfl) (hcall _ _ _ _ hvis) ?_;exact WX.runV hcall 67 [8,M1,M2] [9,10] [] rfl (by decide) (F1:=[(8,bo zb),(M1,.box [.map a']),(M2,.box [.own b'])]) (by kernel_rfl) (WX.nil (ToM.ret (hlv _ rfl rfl rfl)))
 | succ n ih=>
  intro rows a b z hz hv;have hz:Ah3 call qV (VisR call qV atoms all n) rows all (.box [.map a]) (.box [.own b]) z:=hz;have hq:(((rows.map rowD).length:Int) == vars)=false:=by
   rw [List.length_map];cases h:((rows.length:Int) == vars) with
   | false=>rfl
   | true=>rw [beq_iff_eq] at h;omega
  have hr1:rows.length<=1:=by omega
  have shapes:∀ {todo:List RowP} {a:List (Value×D)} {b:List (List D)},Ah3 call qV (VisR call qV atoms all n) rows todo (.box [.map a]) (.box [.own b]) z->∃ a' b',z.2.1=.box [.map a']/\z.2.2=.box [.own b']:=by
   intro todo
   induction todo with
   | nil=>intro a b h;have h:z=(true,.box [.map a],.box [.own b]):=h;subst h;exact ⟨a,b,rfl,rfl⟩
   | cons r todo ih2=>
    intro a b h;rcases h with ⟨_,h⟩ | ⟨_,rs,y,_,hrs,hy,h⟩
    ·exact ih2 h
    ·obtain ⟨a1,b1,e1,e2,_⟩:=ih hy (by rw [List.length_append,List.length_singleton,hrs];omega);rcases h with ⟨_,h⟩ | ⟨_,h⟩
     ·rw [e1,e2] at h;exact ih2 h
     ·rw [h];exact ⟨a1,b1,e1,e2⟩
  obtain ⟨a',b',e1,e2⟩:=shapes hz;refine ⟨a',b',e1,e2,start e1 e2 ?_⟩;have hlv:=hlv z;generalize hQ0:Ai6 env Tryz.f67 3 (.bool z.1) z.2.1 z.2.2=Q0 at hlv ⊢;unfold Tryz.f67;simp only [Option.getD_some];refine ToM.seq (ToM.region hcall hm 67 VA (by decide) (fA nm ats all vars atoms rows a b) (by kernel_rfl) ?_);refine ToM.seq (ToM.seq (ToM.region hcall hm 67 (VA++[15]) (by decide) (fA nm ats all vars atoms rows a b++[(15,bo (((rows.map rowD).length:Int) == vars))]) (by kernel_rfl) ?_));refine ToM.cond (t:=(((rows.map rowD).length:Int) == vars)) (by kernel_rfl) (fun h=>by rw [hq] at h;cases h) (fun _=>ToM.skip ?_);refine ToM.seq (ToM.mono (Q:=fun e F=>(e=.normal/\∃ a b,norm VL F=fL nm ats all vars atoms rows all.length a b/\z=(true,.box [.map a],.box [.own b]))∨(e=.ret/\Q0 .ret F)) ?_ ?_)
  case refine_2=>
   rintro e F (⟨rfl,a,b,hF,hz2⟩ | ⟨rfl,h⟩)
   ·refine ToM.normed (by decide) _ hF ?_;subst hz2;exact ToM.seq (ToM.region hcall hm 67 [8,M1,M2] (by decide) [(8,bo true),(M1,.box [.map a]),(M2,.box [.own b])] (by kernel_rfl) (ToM.ret (hlv _ rfl rfl rfl)))
   ·exact h
  refine ToM.seq (ToM.region hcall hm 67 VL (by decide) (fL nm ats all vars atoms rows 0 a b) (by kernel_rfl) ?_);refine ToM.block (ToM.loopInd (fun k F=>∃ i a b,i<=all.length/\k=all.length-i+1/\norm VL F=fL nm ats all vars atoms rows i a b/\Ah3 call qV (VisR call qV atoms all n) rows (all.drop i) (.box [.map a]) (.box [.own b]) z) ?_ ?_ (all.length+1) ⟨0,a,b,Nat.zero_le _,rfl,by kernel_rfl,hz⟩)
  ·rintro F ⟨i,_,_,_,h,_⟩;omega
  rintro k F ⟨i,a,b,hi,hki,hF,hz⟩;refine ToM.normed (by decide) _ hF ?_;refine ToM.seq (ToM.region hcall hm 67 (VL++[30]) (by decide) (fL nm ats all vars atoms rows i a b++[(30,bo (decide ((i:Int)<((all.map rowD).length:Int))))]) (by kernel_rfl) ?_);refine ToM.seq (ToM.cond (t:=decide ((i:Int)<((all.map rowD).length:Int))) (by kernel_rfl) (fun ha=>ToM.skip ?_) (fun ha=>ToM.exit ?_))
  case refine_2=>
   rw [decide_eq_false_iff_not,List.length_map] at ha;have hil:i=all.length:=by omega
   rw [hil,List.drop_length] at hz;refine .inl ⟨rfl,a,b,?_,hz⟩;rw [← hil];kernel_rfl
  rw [decide_eq_true_eq,List.length_map] at ha;have hil:i<all.length:=by omega
  rw [List.drop_eq_getElem_cons hil] at hz;have hget:(all.map rowD)[i]? = some (rowD all[i]):=by rw [List.getElem?_map,List.getElem?_eq_getElem hil];rfl
  generalize all[i]=p at hz hget;have next:∀ (a:List (Value×D)) (b:List (List D)) {G:Fr},norm VL G=fL nm ats all vars atoms rows i a b->Ah3 call qV (VisR call qV atoms all n) rows (all.drop (i+1)) (.box [.map a]) (.box [.own b]) z->ToM env 47 (.region 9 (Abo Tryz.f67 9) false) G fun e F1=>match e with
    | .normal=>∃ i a b,i<=all.length/\k=all.length-i+1/\norm VL F1=fL nm ats all vars atoms rows i a b/\Ah3 call qV (VisR call qV atoms all n) rows (all.drop i) (.box [.map a]) (.box [.own b]) z
    | e=>Au6 0 (fun e F=>(e=.normal/\∃ a b,norm VL F=fL nm ats all vars atoms rows all.length a b/\z=(true,.box [.map a],.box [.own b]))∨(e=.ret/\Q0 .ret F)) e F1:=by
   intro a b G hG hz;refine ToM.normed (by decide) _ hG (ToM.region hcall hm 67 VL (by decide) (fL nm ats all vars atoms rows (i+1) a b) ?_ ⟨i+1,a,b,by omega,by omega,by kernel_rfl,hz⟩);have hw:=wr i (by omega);have:fL nm ats all vars atoms rows (i+1) a b=[(2,.sl (rows.map rowD)),(3,cloF),(4,tabB nm ats all),(5,denB vars atoms),(27,.sl (all.map rowD)),(28,i6 (all.map rowD).length),(29,.lit (.int .i64 (IntKind.i64.wrap ((i:Int)+1)))),(M1,.box [.map a]),(M2,.box [.own b])]:=by rw [hw]
   refine Eq.trans ?_ (congrArg some this.symm)
   kernel_rfl
  refine ToM.seq (ToM.mono (Q:=fun e F=>(e=.normal/\∃ a b,norm VL F=fL nm ats all vars atoms rows i a b/\Ah3 call qV (VisR call qV atoms all n) rows (all.drop (i+1)) (.box [.map a]) (.box [.own b]) z)∨(e=.ret/\Q0 .ret F)) ?_ ?_)
  case refine_2=>
   rintro e F1 (⟨rfl,a,b,hF1,hz2⟩ | ⟨rfl,h⟩)
   ·exact next a b hF1 hz2
   ·exact .inr ⟨rfl,h⟩
  refine ToM.block ?_;refine ToM.seq (ToM.region hcall hm 67 (VL++[10]) (by decide) (fL nm ats all vars atoms rows i a b++[(10,.box (rowD p))]) ?_ ?_)
  ·refine reg_list [0,1,2,3] (by kernel_rfl) (st_op (o:=opAt (Abo Tryz.f67 5) 0) (by kernel_rfl) rfl (Bav (x:=.tmp 27) (ix:=.tmp 29) (q:=.i64) (es:=all.map rowD) (i:=i) (k:=2) (by kernel_rfl) (by kernel_rfl) (by kernel_rfl) (e:=89) rinfos.1 rinfos.2 hget rfl) ?_)
   kernel_rfl
  rcases hz with ⟨hc,hz⟩ | ⟨hc,rs,y,hcn,hrs,hy,hz⟩
  ·refine ToM.seq (ToM.seq (ToM.region hcall hm 67 (VL++[10,35]) (by decide) (fL nm ats all vars atoms rows i a b++[(10,.box (rowD p)),(35,bo true)]) (reg1 hc (by kernel_rfl) (by kernel_rfl)) ?_));exact ToM.cond (t:=true) (by kernel_rfl) (fun _=>ToM.exit (.inl ⟨rfl,a,b,by kernel_rfl,hz⟩)) (fun h=>by cases h)
  ·refine ToM.seq (ToM.seq (ToM.region hcall hm 67 (VL++[10,35]) (by decide) (fL nm ats all vars atoms rows i a b++[(10,.box (rowD p)),(35,bo false)]) (reg1 hc (by kernel_rfl) (by kernel_rfl)) ?_));refine ToM.cond (t:=false) (by kernel_rfl) (fun h=>by cases h) (fun _=>ToM.skip ?_);obtain ⟨a1,b1,f1,f2,hclo⟩:=ih hy (by rw [List.length_append,List.length_singleton,hrs];omega);obtain ⟨yb,y1,y2⟩:=y;simp only at f1 f2 hclo hz;subst f1 f2;refine deep hcall hrs hr1 hcn hclo (by kernel_rfl) (by kernel_rfl) (fun hb F hF=>?_) (fun hb=>?_)
   ·rcases hz with ⟨_,hz⟩ | ⟨h,_⟩
    ·exact .inl ⟨rfl,a1,b1,hF,hz⟩
    ·rw [hb] at h;cases h
   ·rcases hz with ⟨h,_⟩ | ⟨_,hz⟩
    ·rw [hb] at h;cases h
    ·refine .inr ⟨rfl,?_⟩;rw [hz,hb] at hlv;exact hlv _ rfl rfl rfl
theorem fnok {call:Nat->List D->Option (D×List D)} (hcall:Abq env call) {ds:List D} {r:D} {outs:List D} (h:runAsk call (Ai8 qV ds)=some (r,outs)):FnOK env 39 ds r outs:=by
 obtain ⟨nm,ats,rows,vars,atoms,e,rfl,hchk,rfl,hcase⟩:=Axk h;clear h;have hB:Ah6 Tryz.f39=true:=by kernel_rfl
 have hm:env.P.follows .mixedOrders=true:=by kernel_rfl
 have hnt:Tryz.f39.ntmps=26:=by kernel_rfl
 obtain ⟨q1,q2,q3⟩:=Ap2 (fd:=Tryz.f39) (c:=(Tryz.f39.body).getD .skip) (by kernel_rfl) hB;have hlen:(Nat.ble 2 Tryz.f39.ntmps&&Nat.blt Tryz.f39.ntmps 1000000)=true:=by kernel_rfl
 rw [Bool.and_eq_true] at hlen;refine Amj (fd:=Tryz.f39) (c:=(Tryz.f39.body).getD .skip) (V:=[0,1]) (by kernel_rfl) q1 (by kernel_rfl) q2 q3 (by decide) ⟨Nat.le_of_ble_eq_true hlen.1,Nat.le_of_ble_eq_true hlen.2⟩ ?_;have hb0:norm [0,1] (Adj env 39 0 [.agg [.lit (.string nm),.sl ats,.sl rows],.agg [i6 vars,.sl atoms]])=[(0,.agg [.lit (.string nm),.sl ats,.sl rows]),(1,.agg [i6 vars,.sl atoms])]:=by kernel_rfl
 rw [hb0,hnt];have hlv:∀ (l:List (List D)) (e:Int),r=vioR l e->Ak8 env 39 Tryz.f39 [D.agg [.lit (.string nm),.sl ats,.sl rows],.agg [i6 vars,.sl atoms]].length r [] .ret [(4,.own l),(5,i6 e)]:=by
  intro l e hr;subst hr;show Af0 env 39 Tryz.f39 2 [(4,.own l),(5,i6 e)]=_
  kernel_rfl
 generalize Ak8 env 39 Tryz.f39 [D.agg [.lit (.string nm),.sl ats,.sl rows],.agg [i6 vars,.sl atoms]].length r []=Q0 at hlv ⊢;unfold Tryz.f39;simp only [Option.getD_some];refine ToM.seq (ToM.region hcall hm 39 [2,3,4,5] (by decide) [(2,.box [.lit (.string nm),.sl ats,.sl rows]),(3,denB vars atoms),(4,.own []),(5,i6 0)] (by kernel_rfl) ?_);refine ToM.seq (ToM.seq (ToM.region hcall hm 39 [2,3,4,5,6] (by decide) [(2,.box [.lit (.string nm),.sl ats,.sl rows]),(3,denB vars atoms),(4,.own []),(5,i6 0),(6,i6 e)] (reg1 hchk (by kernel_rfl) (by kernel_rfl)) ?_));refine ToM.seq (ToM.region hcall hm 39 [2,3,4,5,6,14] (by decide) [(2,.box [.lit (.string nm),.sl ats,.sl rows]),(3,denB vars atoms),(4,.own []),(5,i6 0),(6,i6 e),(14,bo (e != 0))] (by kernel_rfl) ?_);refine ToM.cond (t:=e != 0) (by kernel_rfl) (fun he=>?_) (fun he=>ToM.skip ?_)
 ·have he:e≠0:=by simpa using he
  refine ToM.seq (ToM.region hcall hm 39 [4,5] (by decide) [(4,.own []),(5,i6 e)] (by kernel_rfl) (ToM.ret (hlv _ _ ?_)));rcases hcase with ⟨_,h⟩ | ⟨h,_⟩
  ·exact h
  ·exact absurd h he
 have he:e=0:=by simpa using he
 subst he;obtain ⟨all,n,z,rfl,hvars,hn1,hn2,hall,hz,hend⟩:∃ all n z,rows=all.map rowD/\vars=(n:Nat)/\1<=n/\n<=2/\all.length<=1000000/\VisR call qV atoms all n [] (.box [.map []]) (.box [.own []]) z/\EndR call qV z r:=by
  rcases hcase with ⟨h,_⟩ | ⟨_,h⟩
  ·exact absurd rfl h
  ·exact h
 obtain ⟨a',b',e1,e2,hclo⟩:=visit_ok hcall (nm:=nm) (ats:=ats) (atoms:=atoms) (vars:=vars) hall (by omega) hz (by rw [hvars];simp);obtain ⟨zb,z1,z2⟩:=z;simp only at e1 e2 hclo;subst e1 e2;refine ToM.seq (ToM.region hcall hm 39 [2,3,7] (by decide) [(2,tabB nm ats all),(3,denB vars atoms),(7,.box [.map []])] (by kernel_rfl) ?_);refine ToM.seq (ToM.region hcall hm 39 [2,3,7,8] (by decide) [(2,tabB nm ats all),(3,denB vars atoms),(7,.box [.map []]),(8,.box [.own []])] (by kernel_rfl) ?_);refine ToM.seq (ToM.ofX (WX.region [0,1,2,3,4] (by kernel_rfl) (WX.runV hcall 39 [7,8,17,18,19] [0,1,2] [3,4] rfl (by decide) (F1:=[(7,.box [.map []]),(8,.box [.own []]),(17,tabD nm ats all),(18,denD vars atoms),(19,.fn 68 [.alias 7 [],.alias 8 []])]) (by kernel_rfl) ?_)));refine WX.clo (o:=opAt (Abo Tryz.f39 6) 3) (by kernel_rfl) (by kernel_rfl) (c:={ callee:=.value (.func 67),args:=#[.tmp 17,.tmp 18,.const (.slice none 0 0),.tmp 19],argTypes:=#[33,100,31,144] }) (by kernel_rfl) (g:=67) rfl (xs:=[.tmp 17,.tmp 18,.const (.slice none 0 0)]) (y:=.tmp 19) rfl (by intro t ht;cases ht;decide) (v1:=68) (s1:=7) (s2:=8) (ds:=[tabD nm ats all,denD vars atoms,.sl (([]:List RowP).map rowD)])
  ⟨⟨by intro t ht;cases ht;decide,tabD nm ats all,by kernel_rfl,by kernel_rfl,by kernel_rfl⟩,⟨by intro t ht;cases ht;decide,denD vars atoms,by kernel_rfl,by kernel_rfl,by kernel_rfl⟩,⟨(by intro t ht;cases ht),.own [],by kernel_rfl,by kernel_rfl,by kernel_rfl⟩,trivial⟩ (by kernel_rfl) (by decide) (by kernel_rfl) (by kernel_rfl) (v:=.bool zb) rfl (o1:=.box [.map a']) (o2:=.box [.own b']) rfl rfl (by intro d hd;cases hd;decide) hclo ?_
 refine WX.runV hcall 39 [8,9] [4] [] rfl (by decide) (F1:=[(8,.box [.own b']),(9,bo zb)]) (by kernel_rfl) (WX.nil ?_);refine ToM.seq (ToM.seq (ToM.region hcall hm 39 [8,22] (by decide) [(8,.box [.own b']),(22,bo (!zb))] (by kernel_rfl) ?_));refine ToM.cond (t:=!zb) (by kernel_rfl) (fun h=>?_) (fun h=>ToM.skip ?_)
 ·refine ToM.seq (ToM.region hcall hm 39 [4,5] (by decide) [(4,.own []),(5,i6 3)] (by kernel_rfl) (ToM.ret (hlv _ _ ?_)));rcases hend with ⟨_,h⟩ | ⟨h1,_⟩
  ·exact h
  ·simp only at h1;rw [h1] at h;cases h
 ·rcases hend with ⟨h1,_⟩ | ⟨_,es,o',he,hsrt,l,hl,hr⟩
  ·simp only at h1;rw [h1] at h;cases h
  ·simp only [D.box.injEq,List.cons.injEq,D.own.injEq,and_true] at he;subst he;have h9:regC env 39 [8] call (Abo Tryz.f39 9) false [(8,.box [.own b']),(22,bo (!zb))]=some [(8,.box [outE o'])]:=by
    clear hl hr;cases o' with
    | nil=>exact reg1 hsrt (by kernel_rfl) (by kernel_rfl)
    | cons x o'=>exact reg1 hsrt (by kernel_rfl) (by kernel_rfl)
   refine ToM.seq (ToM.region hcall hm 39 [8] (by decide) [(8,.box [outE o'])] h9 ?_);rw [hl];exact ToM.seq (ToM.region hcall hm 39 [4,5] (by decide) [(4,.own l),(5,i6 0)] (by kernel_rfl) (ToM.ret (hlv _ _ hr)))
end Go.Own.Vio
