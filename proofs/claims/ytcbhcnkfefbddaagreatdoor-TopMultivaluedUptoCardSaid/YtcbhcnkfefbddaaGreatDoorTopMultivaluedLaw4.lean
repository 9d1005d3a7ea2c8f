/- What the functions answer. No conditions. -/
import Derived.Test.YtcbhcnkfefbddaaGreatDoorBase2
import Derived.Test.YtcbhcnkfefbddaaGreatDoorOwn30
import Derived.Test.YtcbhcnkfefbddaaGreatDoorOwn20
set_option linter.all false
open List renaming mem_singleton->aA,not_mem_nil->aM,mem_cons->aQ,getElem?_eq_some_iff->a6,mem_map->ba,mem_append->bo,getElem?_eq_getElem->bB,getElem?_map->b3,range->b5,map_append->cc,mem_range->cu
open Nat renaming le_of_ble_eq_true->bL
namespace Go.aS.pq
open Go.Proofs D
set_option maxRecDepth 100000
set_option maxHeartbeats 4000000
abbrev ej(b:Bool):D:=.lit (.bool b)
def Xm{call:Nat->List D->Option (D×List D)}{f g:Nat}{V:List Nat}{az:List D}{x:D×List D}{ops:Array Oper}{d:Bool}{F aD:Fr}(ad:call g az=some x)(I:k8 env f V (λ_ _=>some x) ops d F=some aD)(aa:Jg env f V (λ_ _=>some x) ops d F=[(g,az)]):k8 env f V call ops d F=some aD:=
 Uw (λq au y aw=>by
  rw[aa,aA]at au;subst au;simp only[aE]at aw;subst aw
  exact ad) I
def ob(ops:Array Oper)(i:Nat):Oper:=match ops[i]? with
 |some o=>o
 |none=>{ dst:=none,op:=.move (.const (.int .i64 0)),type:=0,guard:=none,pos:=default,after:=#[] }
def ak8(o:Oper):Nat:=match o.op with
 | .binOp _ _ _ _ ty=>ty
 |_=>0
abbrev PF(l q:Int):D:=.box [.lit (.int .u32 l),.lit (.int .u32 q)]
abbrev mp(r:Nat):D:=.lit (.map (some r))
def sT:List Nat:=[3,8,9,10,52,53,54]
abbrev hY(l q n:Int)(rg:Nat)(rows:List (List D))(i:Nat):Fr:=[(3,PF l q),(8,.lit (.int .u32 (qf l q))),(9,.lit (.int .u32 (qk n l q))),(10,mp rg),(52,.sl rows),(53,.lit (.int .i64 rows.length)),(54,.lit (.int .i64 i))]
abbrev HU(id:Int)(vs:List (List D)):D:=.box [.lit (.int .i64 id),.sl vs]
def pt:List Nat:=sT++[12,13,14]
abbrev mA(x y z:Option Nat):D:=.box [.lit (.map x),.lit (.map y),.lit (.map z)]
abbrev n0(l q n:Int)(rg:Nat)(rows:List (List D))(i:Nat)(id:Int)(vs:List (List D))(s:ByteArray)(x y z:Option Nat):Fr:=hY l q n rg rows i++[(12,HU id vs),(13,.lit (.string s)),(14,mA x y z)]
def tG{call:Nat->List D->Option (D×List D)}{f:Nat}{V:List Nat}{F aD:Fr}{ops:Array Oper}(l:List Nat)(hr:b5 ops.size=l)(h:(fQ env f V call ops l F).map (norm V)=some aD):k8 env f V call ops false F=some aD:=by
 simp only[k8,Bool.false_eq_true,if_false,hr];exact h
def st_op{call:Nat->List D->Option (D×List D)}{f:Nat}{V:List Nat}{F aX aD:Fr}{ops:Array Oper}{i:Nat}{l:List Nat}{o:Oper}(hi:ops[i]?=some o)(hw:fV ops F o=some true)(h:cV env f V call F o=some aX)(k:(fQ env f V call ops l aX).map (norm V)=some aD):(fQ env f V call ops (i::l) F).map (norm V)=some aD:=by
 rw[SG hi hw h];exact k
def alh{call:Nat->List D->Option (D×List D)}{f g:Nat}{V:List Nat}{HN HO:List D}{ops:Array Oper}{d:Bool}{F aD:Fr}(h:List D->ByteArray)(aT:call g HN=some (.lit (.string (h HN)),[]))(a5:call g HO=some (.lit (.string (h HO)),[]))(I:k8 env f V (λ_ az=>some (.lit (.string (h az)),[])) ops d F=some aD)(aa:Jg env f V (λ_ az=>some (.lit (.string (h az)),[])) ops d F=[(g,HN),(g,HO)]):k8 env f V call ops d F=some aD:=
 Uw (λq au y aw=>by
  rw[aa]at au;simp only[aE]at aw;subst aw;simp only[aQ,aM,or_false]at au;rcases au with rfl|rfl
  .exact aT
  .exact a5) I
def infos:Tryz.prog.underlying 80=some (.map 9 86)/\Tryz.prog.underlying 9=some .string/\Tryz.prog.underlying 85=some (.map 9 4)/\Tryz.prog.underlying 86=some (.array 3 85):=by
 refine⟨by kernel_rfl,by kernel_rfl,by kernel_rfl,by kernel_rfl⟩
def wQ:List Nat:=pt++[15]
abbrev HT(l q n:Int)(rg:Nat)(rows:List (List D))(i:Nat)(id:Int)(vs:List (List D))(s:ByteArray)(x y z:Option Nat)(b:Bool):Fr:=n0 l q n rg rows i id vs s x y z++[(15,ej b)]
def alT:∃i,Tryz.prog.info? 86=some i/\i.zero=some (.agg ([Value.map none,.map none,.map none]:List Value).toArray):=by
 obtain⟨i,hi⟩:=xL infos.2.2.2;refine⟨i,hi,?_⟩;have h:(Tryz.prog.info? 86).bind (·.zero)=some (.agg ([Value.map none,.map none,.map none]:List Value).toArray):=by kernel_rfl
 rw[hi]at h;exact h
def wr(i:Nat)(h:i<1000000000):IntKind.i64.wrap ((i:Int)+1)=((i+1:Nat):Int):=by
 (try rw[Jy]);rw[IntKind.wrap_i64];omega
def Jr:Nat:=29
def zk:Nat:=30
noncomputable def mM:Array Oper:=afR Tryz.f10 18
def alG:Hw Tryz.prog mM 86 85 9 9 4 14 16 17 83 where
 size:=by kernel_rfl
 qX:=by kernel_rfl
 ut:=by kernel_rfl
 Jp:=by kernel_rfl
 one:=⟨by kernel_rfl,by kernel_rfl⟩
 arr:=by kernel_rfl
 inf:=xL infos.2.2.1
 sc:=⟨ob mM 0,by kernel_rfl,by kernel_rfl,by kernel_rfl,⟨.i64,by kernel_rfl⟩⟩
 sd:=⟨ob mM 1,by kernel_rfl,by kernel_rfl,by kernel_rfl,by kernel_rfl⟩
 Pb:=⟨ob mM 2,by kernel_rfl,by kernel_rfl,by kernel_rfl,by kernel_rfl⟩
 Pc:=⟨ob mM 3,by kernel_rfl,by kernel_rfl,by kernel_rfl,⟨.i64,by kernel_rfl⟩⟩
 Pd:=⟨ob mM 4,by kernel_rfl,by kernel_rfl,by kernel_rfl,by kernel_rfl⟩
 Pe:=⟨ob mM 5,by kernel_rfl,by kernel_rfl,by kernel_rfl,by kernel_rfl⟩
 Pf:=⟨ob mM 6,by kernel_rfl,by kernel_rfl,by kernel_rfl,⟨.i64,by kernel_rfl⟩⟩
 Pg:=⟨ob mM 7,by kernel_rfl,by kernel_rfl,by kernel_rfl,by kernel_rfl⟩
 Ph:=⟨ob mM 8,by kernel_rfl,by kernel_rfl,by kernel_rfl,by kernel_rfl⟩
 Pj:=⟨ob mM 9,by kernel_rfl,by kernel_rfl,by kernel_rfl,by kernel_rfl⟩
 O7:=⟨ob mM 10,by kernel_rfl,by kernel_rfl,by kernel_rfl,⟨ak8 (ob mM 10),by kernel_rfl⟩⟩
 O8:=⟨ob mM 11,by kernel_rfl,by kernel_rfl,by kernel_rfl,by kernel_rfl⟩
 O9:=⟨ob mM 12,by kernel_rfl,by kernel_rfl,by kernel_rfl,by kernel_rfl⟩
 O_:=⟨ob mM 13,by kernel_rfl,by kernel_rfl,by kernel_rfl,by kernel_rfl⟩
 o1:=by kernel_rfl
 vE:=by kernel_rfl
 tF:=by kernel_rfl
 B_:=by kernel_rfl
 f0:=by kernel_rfl
 f1:=by kernel_rfl
 f2:=by kernel_rfl
 f3:=by kernel_rfl
 f4:=by kernel_rfl
 f5:=by kernel_rfl
 f6:=by kernel_rfl
 f7:=by kernel_rfl
 f8:=by kernel_rfl
 f9:=by kernel_rfl
 f10:=by kernel_rfl
def M_{call:Nat->List D->Option (D×List D)}(cn:lL env call){az:List D}{r:D}{outs:List D}(h:fz call (sB 29 30 az)=some (r,outs)):sO env 10 az r outs:=by
 obtain⟨mc,c0,rows,l,q,e,rfl,av,rfl,xb⟩:=YP h;clear h;have cg:uw Tryz.f10=true:=by kernel_rfl
 have hm:env.P.follows .mixedOrders=true:=by kernel_rfl
 have Ep:Tryz.f10.ntmps=112:=by kernel_rfl
 obtain⟨b_,cM,fI⟩:=Tk (fd:=Tryz.f10) (c:=(Tryz.f10.body).getD .skip) (by kernel_rfl) cg;have hlen:(Nat.ble 2 Tryz.f10.ntmps&&Nat.blt Tryz.f10.ntmps 1000000)=true:=by kernel_rfl
 rw[Bool.and_eq_true]at hlen;refine KC (fd:=Tryz.f10) (c:=(Tryz.f10.body).getD .skip) (V:=[0,1]) (by kernel_rfl) b_ (by kernel_rfl) cM fI (by decide) ⟨bL hlen.1,bL hlen.2⟩ ?_;have w_:norm [0,1] (nH env 10 0 [.agg [.lit (.string mc),.sl c0,.sl rows],.agg [.lit (.int .u32 l),.lit (.int .u32 q)]])=[(0,.agg [.lit (.string mc),.sl c0,.sl rows]),(1,.agg [.lit (.int .u32 l),.lit (.int .u32 q)])]:=by kernel_rfl
 rw[w_,Ep];have tj:∀(F:Fr)(b:Bool)(k:Int),get F 4=ej b->get F 5=.lit (.int .i64 k)->r=vF b k->C5 env 10 Tryz.f10 [D.agg [.lit (.string mc),.sl c0,.sl rows],.agg [.lit (.int .u32 l),.lit (.int .u32 q)]].length r [] .ret F:=by
  intro F b k aW bO hr;subst hr;show ow env 10 Tryz.f10 2 F=_;have hr:Tryz.f10.results.toList=[ResultVar.tmp 4,ResultVar.tmp 5]:=by kernel_rfl
  have hl:ij env 10 0 2=[]:=by kernel_rfl
  simp only[ow,hr,sE,zx,c9,aW,bO,e9,hl,List.map_nil,List.all_nil,if_true,yk];rfl
 generalize C5 env 10 Tryz.f10 [D.agg [.lit (.string mc),.sl c0,.sl rows],.agg [.lit (.int .u32 l),.lit (.int .u32 q)]].length r []=UO at tj⊢;unfold Tryz.f10;simp only[Option.getD_some];refine bG.seq (bG.region cn hm 10 [2,3,4,5] (by decide) [(2,.box [.lit (.string mc),.sl c0,.sl rows]),(3,.box [.lit (.int .u32 l),.lit (.int .u32 q)]),(4,ej false),(5,.lit (.int .i64 0))] (by kernel_rfl) ?_);refine bG.seq (bG.seq (bG.region cn hm 10 [2,3,4,5,6] (by decide) [(2,.box [.lit (.string mc),.sl c0,.sl rows]),(3,.box [.lit (.int .u32 l),.lit (.int .u32 q)]),(4,ej false),(5,.lit (.int .i64 0)),(6,.lit (.int .i64 e))] (Xm av (by kernel_rfl) (by kernel_rfl)) ?_));refine bG.seq (bG.region cn hm 10 [2,3,4,5,6,23] (by decide) [(2,.box [.lit (.string mc),.sl c0,.sl rows]),(3,.box [.lit (.int .u32 l),.lit (.int .u32 q)]),(4,ej false),(5,.lit (.int .i64 0)),(6,.lit (.int .i64 e)),(23,ej (e != 0))] (by kernel_rfl) ?_);refine bG.cond (t:=e != 0) (by kernel_rfl) (λhe=>?_) (λhe=>bG.skip ?_)
 .have he:e≠0:=by simpa using he
  refine bG.seq (bG.region cn hm 10 [4,5] (by decide) [(4,ej false),(5,.lit (.int .i64 e))] (by kernel_rfl) (bG.ret (tj _ false e rfl rfl ?_)));rcases xb with⟨_,h⟩|⟨h,_⟩|⟨h,_⟩
  .exact h
  .exact absurd h he
  .exact absurd h he
 have he:e=0:=by simpa using he
 subst he;refine bG.seq (bG.region cn hm 10 [2,3,4,5,7] (by decide) [(2,.box [.lit (.string mc),.sl c0,.sl rows]),(3,.box [.lit (.int .u32 l),.lit (.int .u32 q)]),(4,ej false),(5,.lit (.int .i64 0)),(7,.lit (.int .i64 c0.length))] (by kernel_rfl) ?_);refine bG.seq (bG.seq (bG.region cn hm 10 [2,3,4,5,7,35] (by decide) [(2,.box [.lit (.string mc),.sl c0,.sl rows]),(3,.box [.lit (.int .u32 l),.lit (.int .u32 q)]),(4,ej false),(5,.lit (.int .i64 0)),(7,.lit (.int .i64 c0.length)),(35,ej (ft .u32 (eZ .u32 l q) (c0.length:Int)!=0))] (by kernel_rfl) ?_));refine bG.cond (t:=ft .u32 (eZ .u32 l q) (c0.length:Int)!=0) (by kernel_rfl) (λae=>?_) (λae=>bG.skip ?_)
 .have ae:ft .u32 (eZ .u32 l q) (c0.length:Int)≠0:=by simpa using ae
  refine bG.seq (bG.region cn hm 10 [4,5] (by decide) [(4,ej false),(5,.lit (.int .i64 1))] (by kernel_rfl) (bG.ret (tj _ false 1 rfl rfl ?_)));rcases xb with⟨h,_⟩|⟨_,_,h⟩|⟨_,h,_⟩
  .exact absurd rfl h
  .exact h
  .exact absurd h ae
 have ae:ft .u32 (eZ .u32 l q) (c0.length:Int)=0:=by simpa using ae
 obtain⟨y8,L,cq,hr⟩:rows.length<=1000000/\∃L,Dn call 30 l (qf l q) (qk c0.length l q) rows L/\r=vF (sf L) 0:=by
  rcases xb with⟨h,_⟩|⟨_,h,_⟩|⟨_,_,h⟩
  .exact absurd rfl h
  .exact absurd ae h
  .exact h
 refine bG.seq (bG.region cn hm 10 [2,3,4,5,8,9] (by decide) [(2,.box [.lit (.string mc),.sl c0,.sl rows]),(3,.box [.lit (.int .u32 l),.lit (.int .u32 q)]),(4,ej false),(5,.lit (.int .i64 0)),(8,.lit (.int .u32 (qf l q))),(9,.lit (.int .u32 (qk c0.length l q)))] (by kernel_rfl) ?_);refine bG.ak2 ?_;refine ca.seq (dP.region [0,1] rfl (dP.value rfl rfl λR M B w0 a w dM af=>?_));refine⟨_,_,_,_,FV rfl,af.new (.map #[] 0) (v:=.map (some w.heap.size)) rfl (some 50) (λd ah=>by cases ah;decide),?_⟩;generalize w.heap.size=rg;clear af dM;refine dP.run cn 10 [] [1] [] rfl (aX:=[(2,.box [.lit (.string mc),.sl c0,.sl rows]),(3,PF l q),(4,ej false),(5,.lit (.int .i64 0)),(8,.lit (.int .u32 (qf l q))),(9,.lit (.int .u32 (qk c0.length l q))),(50,mp rg),(10,mp rg)]) (by kernel_rfl) (dP.nil ?_);have Ba:(rows.length:Int)<1000001:=by omega
 refine ca.seq (ca.mono (Q:=λe F X=>e=.normal/\aS.norm sT F=hY l q c0.length rg rows rows.length/\∃gs,nS rg L gs X/\(∀g∈gs,g.1∈L.map (·.1))/\L.length=rows.length) ?_ ?_)
 ·
  refine ca.seq (ca.region cn hm 10 sT (by decide) (hY l q c0.length rg rows 0) (by kernel_rfl) ?_);refine ca.block (ca.Bu (λk F X=>∃i aJ bm gs,i<=rows.length/\k=rows.length-i+1/\aS.norm sT F=hY l q c0.length rg rows i/\aJ.length=i/\Dn call 30 l (qf l q) (qk c0.length l q) (rows.drop i) bm/\aJ++bm=L/\nS rg aJ gs X/\∀g∈gs,g.1∈aJ.map (·.1)) ?_ ?_ (rows.length+1) ⟨0,[],L,[],Nat.zero_le _,rfl,by kernel_rfl,rfl,cq,rfl,nS.init rg,by simp⟩)
  .rintro F X ⟨i,_,_,_,_,h,_⟩;omega
  rintro k F X ⟨i,aJ,bm,gs,hi,NW,e2,yZ,dA,Nn,c8,te⟩;refine ca.kD (by decide) _ e2 ?_;refine ca.seq (ca.region cn hm 10 (sT++[55]) (by decide) (hY l q c0.length rg rows i++[(55,ej (decide ((i:Int)<(rows.length:Int))))]) (by kernel_rfl) ?_);refine ca.seq (ca.cond (t:=decide ((i:Int)<(rows.length:Int))) (by kernel_rfl) (λaC=>ca.skip ?_) (λaC=>ca.exit ?_))
  case refine_2=>
   rw[decide_eq_false_iff_not]at aC;have Ej:i=rows.length:=by omega
   rw[Ej,List.drop_length]at dA;have dA:bm=[]:=dA;subst dA;rw[List.append_nil]at Nn;subst Nn;refine⟨rfl,?_,gs,c8,te,by omega⟩;rw[<-Ej];kernel_rfl
  rw[decide_eq_true_eq]at aC;have Ej:i<rows.length:=by omega
  have Ed:rows.drop i=rows[i]::rows.drop (i+1):=List.drop_eq_getElem_cons Ej;rw[Ed]at dA;obtain⟨s1,s2,d_,cd,id,vs,oO,rfl,b9,k2,gY,Nx,ah8⟩:=dA;rw[oO]at b9 k2 gY;have oO:rows[i]?=some [.lit (.int .i64 id),.sl vs]:=by rw[bB Ej,oO]
  refine ca.seq (ca.mono (Q:=λe F X=>e=.normal/\aS.norm sT F=hY l q c0.length rg rows i/\∃s5,nS rg (aJ++[(s1,s2,d_)]) s5 X/\∀g∈s5,g.1∈(aJ++[(s1,s2,d_)]).map (·.1)) ?_ ?_)
  case refine_2=>
   rintro _ aX wR ⟨rfl,yK,s5,Ol,NM⟩;refine ca.kD (by decide) _ yK ?_;refine ca.region cn hm 10 sT (by decide) (hY l q c0.length rg rows (i+1)) ?_ ⟨i+1,aJ++[(s1,s2,d_)],cd,s5,by omega,by omega,by kernel_rfl,by simp[yZ],ah8,by rw[List.append_assoc];exact Nn,Ol,NM⟩;have hw:=wr i (by omega);have:hY l q c0.length rg rows (i+1)=[(3,PF l q),(8,.lit (.int .u32 (qf l q))),(9,.lit (.int .u32 (qk c0.length l q))),(10,mp rg),(52,.sl rows),(53,.lit (.int .i64 rows.length)),(54,.lit (.int .i64 (IntKind.i64.wrap ((i:Int)+1))))]:=by rw[hw]
   refine Eq.trans ?_ (congrArg some this.symm)
   kernel_rfl
  refine ca.block ?_;refine ca.seq (ca.region cn hm 10 (sT++[12]) (by decide) (hY l q c0.length rg rows i++[(12,HU id vs)]) ?_ ?_)
  .refine tG [0,1,2,3] rfl (st_op rfl rfl (acg (q:=.i64) (es:=rows) (i:=i) (k:=2) rfl (by kernel_rfl) (by kernel_rfl) (e:=83) (by kernel_rfl) (by kernel_rfl) oO rfl) ?_)
   kernel_rfl
  refine ca.seq (ca.region cn hm 10 (sT++[12,13]) (by decide) (hY l q c0.length rg rows i++[(12,HU id vs),(13,.lit (.string s1))]) (Xm b9 (by kernel_rfl) (by kernel_rfl)) ?_);have We:(∃g∈gs,g.1=s1/\pe s1 (gG gs)=some (s6 g))∨(s1 ∉ gs.map (·.1)/\pe s1 (gG gs)=none):=by
   by_cases h:s1∈gs.map (·.1)
   .exact .inl (Rx h)
   .exact .inr ⟨h,Rw h⟩
  refine ca.seq (ca.mono (Q:=λe F Y=>e=.normal/\Y=X/\((∃g∈gs,g.1=s1/\norm wQ F=HT l q c0.length rg rows i id vs s1 (some g.2.1) (some g.2.2.1) (some g.2.2.2) true)∨(s1 ∉ gs.map (·.1)/\norm wQ F=HT l q c0.length rg rows i id vs s1 none none none false))) ?_ ?_)
  .refine dP.region [0,1,2,3,4,5,6,7,8] rfl (dP.p0 cn 10 (sT++[12,13,63,64]) [0,1] [2,3,4,5,6,7,8] rfl (by decide) (aX:=hY l q c0.length rg rows i++[(12,HU id vs),(13,.lit (.string s1)),(63,mp rg),(64,.lit (.string s1))]) (by kernel_rfl) (dP.value rfl rfl λR M B w0 a w dM af=>?_));have ex:a.eval (.tmp 63)=.map (some rg):=af.lit (E:=env) (x:=.tmp 63) (λt al=>by cases al;decide) (by kernel_rfl);have gT:a.eval (.tmp 64)=.string s1:=af.lit (E:=env) (x:=.tmp 64) (λt al=>by cases al;decide) (by kernel_rfl);have aU:w.heap[rg]?=some (kp (gG gs)):=af.heap (b:=(rg,kp (gG gs))) (by rw[c8.lr];simp);obtain⟨inf,h_,aG⟩:=alT;have hl:=YX (P:=Tryz.prog) infos.1 infos.2.1 aU s1 h_ aG;rcases We with⟨g,ak,Eg,rW⟩|⟨hZ,rW⟩
   .rw [rW]at hl;refine⟨_,_,_,_,QT rfl (by rw[ex,gT];exact hl),af.bt (l1:=[]) (l:=[.map (some g.2.1),.map (some g.2.2.1),.map (some g.2.2.2)]) (l2:=[.bool true]) (by simp) Lx (by intro v av;simp only[aA]at av;subst av;rfl) (some 65) (λd ah=>by cases ah;decide),?_⟩;exact dP.p0 cn 10 wQ [3,4,5,6,7,8] [] rfl (by decide) (aX:=HT l q c0.length rg rows i id vs s1 (some g.2.1) (some g.2.2.1) (some g.2.2.2) true) (by kernel_rfl) (dP.nil ⟨rfl,rfl,.inl ⟨g,ak,Eg,by kernel_rfl⟩⟩)
   .rw [rW]at hl;refine⟨_,_,_,_,QT rfl (by rw[ex,gT];exact hl),af.bt (l1:=[]) (l:=[.map none,.map none,.map none]) (l2:=[.bool false]) (by simp) (by intro v av;simp only[aQ,aM,or_false]at av;rcases av with rfl|rfl|rfl<;>rfl) (by intro v av;simp only[aA]at av;subst av;rfl) (some 65) (λd ah=>by cases ah;decide),?_⟩;exact dP.p0 cn 10 wQ [3,4,5,6,7,8] [] rfl (by decide) (aX:=HT l q c0.length rg rows i id vs s1 none none none false) (by kernel_rfl) (dP.nil ⟨rfl,rfl,.inr ⟨hZ,by kernel_rfl⟩⟩)
  rintro _ alW X' ⟨rfl,VL,AX⟩;rw[VL];clear We VL X';refine ca.seq (ca.mono (Q:=λe F X=>e=.normal/\∃s5 g,nS rg aJ s5 X/\g∈s5/\g.1=s1/\norm pt F=n0 l q c0.length rg rows i id vs s1 (some g.2.1) (some g.2.2.1) (some g.2.2.2)/\∀fG∈s5,fG.1∈aJ.map (·.1)∨fG.1=s1) ?_ ?_)
  .rcases AX with⟨g,ak,Eg,AX⟩|⟨hZ,AX⟩
   .refine ca.kD (by decide) _ AX ?_;refine ca.seq (ca.region cn hm 10 (pt++[69]) (by decide) (n0 l q c0.length rg rows i id vs s1 (some g.2.1) (some g.2.2.1) (some g.2.2.2)++[(69,ej false)]) (by kernel_rfl) ?_);refine ca.cond (t:=false) (by kernel_rfl) (λh=>by cases h) (λ_=>ca.skip ⟨rfl,gs,g,c8,ak,Eg,by kernel_rfl,λfG hL=>.inl (te fG hL)⟩)
   .refine ca.kD (by decide) _ AX ?_;refine ca.seq (ca.region cn hm 10 (pt++[69]) (by decide) (n0 l q c0.length rg rows i id vs s1 none none none++[(69,ej true)]) (by kernel_rfl) ?_);refine ca.cond (t:=true) (by kernel_rfl) (λ_=>?_) (λh=>by cases h);refine ca.seq (dP.region [0,1,2,3,4] rfl (dP.value rfl rfl λR M B w0 a w dM af=>⟨_,_,_,_,FV rfl,af.new (.map #[] 0) (v:=.map (some w.heap.size)) rfl (some 70) (λd ah=>by cases ah;decide),?_⟩));have f1:=af.fresh;generalize w.heap.size=r1 at f1;clear af dM R M B w0 a w;refine dP.value rfl rfl λR M B w0 a w dM af=>⟨_,_,_,_,FV rfl,af.new (.map #[] 0) (v:=.map (some w.heap.size)) rfl (some 71) (λd ah=>by cases ah;decide),?_⟩
    have f2:=af.fresh;generalize w.heap.size=r2 at f2;clear af dM R M B w0 a w;refine dP.value rfl rfl λR M B w0 a w dM af=>⟨_,_,_,_,FV rfl,af.new (.map #[] 0) (v:=.map (some w.heap.size)) rfl (some 72) (λd ah=>by cases ah;decide),?_⟩
    have f3:=af.fresh;generalize w.heap.size=bx at f3;clear af dM R M B w0 a w;refine dP.p0 cn 10 pt [3,4] [] rfl (by decide) (aX:=n0 l q c0.length rg rows i id vs s1 (some r1) (some r2) (some bx)) (by kernel_rfl) (dP.nil ?_);have Vr:r1<r2:=f2 (r1,.map #[] 0) (by simp);have amf:r2<bx:=f3 (r2,.map #[] 0) (by simp);have qJ:∀r∈[r1,r2,bx],r ∉ X.map Prod.fst:=λr hr lr=>by
     obtain⟨b,ag,rfl⟩:=ba.1 lr;have:=f1 b ag;simp only[aQ,aM,or_false]at hr;omega
    refine dP.region [0,1,2,3] rfl (dP.p0 cn 10 (pt++[74,75,76]) [0,1,2] [3] rfl (by decide) (aX:=n0 l q c0.length rg rows i id vs s1 (some r1) (some r2) (some bx)++[(74,mp rg),(75,.lit (.string s1)),(76,.agg [mp r1,mp r2,mp bx])]) (by kernel_rfl) (dP.act rfl rfl rfl λR M B w0 a w dM af=>?_));have ex:a.eval (.tmp 74)=.map (some rg):=af.lit (E:=env) (x:=.tmp 74) (λt al=>by cases al;decide) (by kernel_rfl);have gT:a.eval (.tmp 75)=.string s1:=af.lit (E:=env) (x:=.tmp 75) (λt al=>by cases al;decide) (by kernel_rfl);have ev:a.eval (.tmp 76)=s6 (s1,r1,r2,bx):=af.agg (E:=env) (x:=.tmp 76) (l:=[.map (some r1),.map (some r2),.map (some bx)]) (λt al=>by cases al;decide) (by kernel_rfl);have aU:w.heap[rg]?=some (kp (gG gs)):=af.heap (b:=(rg,kp (gG gs))) (by rw[c8.lr];simp);have akc:=Yo (P:=Tryz.prog) infos.1 infos.2.1 aU (Rw hZ) (s6 (s1,r1,r2,bx));refine⟨_,_,_,Zl rfl (by rw[ex,gT,ev];exact akc),(af.lG (r:=rg) (by rw[c8.lr];simp) (kp (gG gs++[(s1,s6 (s1,r1,r2,bx))]))).sub (c8.ale qJ _),dP.nil ⟨rfl,gs++[(s1,r1,r2,bx)],(s1,r1,r2,bx),c8.push hZ qJ ?_,by simp,rfl,by kernel_rfl,?_⟩⟩
    .simp only[List.nodup_cons,aQ,aM,or_false,not_or,List.nodup_nil,and_true,not_false_eq_true];omega
    .intro fG hL;rcases bo.1 hL with hL|hL
     .exact .inl (te fG hL)
     .simp only[aA]at hL;subst hL;exact .inr rfl
  rintro _ alX al3 ⟨rfl,s5,g,Ol,ak,Eg,ah4,NM⟩;clear AX c8 te gs;refine ca.kD (by decide) _ ah4 ?_
  let ae:List D->ByteArray:=λaz=>match call 30 az with
   |some (.lit (.string s),[])=>s
   |_=>default
  have a5:ae [.agg [.lit (.int .i64 id),.sl vs],.lit (.int .u32 (qf l q))]=s2:=by show(match call 30 _ with|some (.lit (.string s),[])=>s|_=>default)=s2;rw[k2]
  have ez:ae [.agg [.lit (.int .i64 id),.sl vs],.lit (.int .u32 (qk c0.length l q))]=d_:=by show(match call 30 _ with|some (.lit (.string s),[])=>s|_=>default)=d_;rw[gY]
  refine ca.seq (ca.region cn hm 10 (pt++[16,17]) (by decide) (n0 l q c0.length rg rows i id vs s1 (some g.2.1) (some g.2.2.1) (some g.2.2.2)++[(16,.lit (.string s2)),(17,.lit (.string d_))]) ?_ ?_)
  .rw [<-a5,<-ez];refine alh ae (g:=30) (HN:=[.agg [.lit (.int .i64 id),.sl vs],.lit (.int .u32 (qf l q))]) (HO:=[.agg [.lit (.int .i64 id),.sl vs],.lit (.int .u32 (qk c0.length l q))]) (by rw[a5];exact k2) (by rw[ez];exact gY) ?_ ?_
   .clear_value ae;kernel_rfl
   .clear_value ae;kernel_rfl
  subst Eg;obtain⟨o5,⟨q5,FD,PW⟩,⟨FE,alH,alI⟩,u8⟩:=Ol.lH ak (s2:=s2) (d_:=d_);refine ca.alP (ca.ak9 (ops':=mM) (by kernel_rfl) (Hw.run alG hm (by decide) ?_ (by kernel_rfl) (by kernel_rfl) (by kernel_rfl) q5 FD PW FE alH alI Nx ⟨_,u8,rfl,?_,s5,o5,?_⟩))
  .intro x U;simp only[cc,List.map_cons,List.map_nil,bo,aQ,aM,or_false]at U;omega
  .kernel_rfl
  .intro fG hL;rw[cc];rcases NM fG hL with h|h
   .exact List.mem_append_left _ h
   .rw [h];simp
 ·
  rintro _ agu AF ⟨rfl,VB,gs,c8,te,hlen⟩;refine ca.kD (by decide) _ VB ?_;have aib:L.length<=1000000:=by omega
  clear hlen cq VB agu;refine ca.seq (ca.mono (Q:=λe F X=>(e=.normal/\sf L=true)∨(e=.ret/\UO .ret F)) ?_ ?_)
  case refine_2=>
   rintro e F X (⟨rfl,cm⟩|⟨rfl,au⟩)
   .refine ca.kD (V:=[]) (by decide) [] rfl ?_;exact ca.seq (ca.region cn hm 10 [4,5] (by decide) [(4,ej true),(5,.lit (.int .i64 0))] (by kernel_rfl) (ca.ret (tj _ true 0 rfl rfl (by rw[hr,cm]))))
   .exact au
  refine ca.seq (dP.region [0,1] rfl (dP.p0 cn 10 [95] [0] [1] rfl (by decide) (aX:=[(95,mp rg)]) (by kernel_rfl) (dP.value rfl rfl λR M B w0 a w dM af=>?_)));have Ij:(gG gs).length=gs.length:=by simp[gG]
  have ex:a.eval (.tmp 95)=.map (some rg):=af.lit (E:=env) (x:=.tmp 95) (λt al=>by cases al;decide) (by kernel_rfl);have aU:w.heap[rg]?=some (kp (gG gs)):=af.heap (b:=(rg,kp (gG gs))) (by rw[c8.lr];simp);refine⟨_,_,_,_,ZW rfl (by rw[ex];exact YJ infos.1 aU),af.new (.mapIter (some rg) (gG gs).length #[] (gG gs).length) (v:=.pointer (some ⟨w.heap.size,0,none⟩)) rfl (some 96) (λd ah=>by cases ah;decide),dP.nil ?_⟩;have f1:=af.fresh;generalize w.heap.size=it at f1;clear aU ex af dM R M B w0 a w;rw[Ij];have u_:∀b∈AF,b.1≠it:=λb ag=>by have:=f1 b ag;omega
  have WK:(rg,kp (gG gs))∈AF:=by rw[c8.lr];simp
  refine ca.block (ca.Bu (λk F X=>∃seen:List Nat,k=gs.length-seen.length+1/\norm [96] F=[(96,.lit (.pointer (some ⟨it,0,none⟩)))]/\X=(it,.mapIter (some rg) gs.length seen.toArray gs.length)::AF/\seen.Nodup/\(∀j∈seen,j<gs.length)/\(∀j∈seen,∀g,gs[j]?=some g->vq L g.1)) ?_ ?_ (gs.length+1) ⟨[],by simp,by kernel_rfl,rfl,by simp,by simp,by simp⟩)
  .rintro F X ⟨_,h,_⟩;omega
  rintro k F X ⟨seen,aj,e2,rfl,l6,bU,cm⟩;refine ca.kD (by decide) _ e2 ?_;have iE:seen.length<=gs.length:=by
   have:=l6.length_le_of_subset (l₂:=b5 gs.length) (λx U=>cu.2 (bU x U));simpa using this
  refine ca.seq (ca.mono (Q:=λe F Y=>e=.normal/\((norm [96,98] F=[(96,.lit (.pointer (some ⟨it,0,none⟩))),(98,ej false)]/\∀j,j<gs.length->j∈seen)∨(∃j g,gs[j]?=some g/\j ∉ seen/\norm [96,98] F=[(96,.lit (.pointer (some ⟨it,0,none⟩))),(98,ej true)]/\Y=(it,.mapIter (some rg) gs.length (seen++[j]).toArray gs.length)::AF))) ?_ ?_)
  .refine dP.region [0,1] rfl (dP.value rfl rfl λR M B w0 a w dM af=>?_);have DQ:a.eval (.tmp 96)=.pointer (some ⟨it,0,none⟩):=af.lit (E:=env) (x:=.tmp 96) (λt al=>by cases al;decide) (by kernel_rfl);have I:=af.heap (b:=(it,.mapIter (some rg) gs.length seen.toArray gs.length)) (by simp);have aa:=af.heap (b:=(rg,kp (gG gs))) (by simp[WK]);have hold:∀x∈(T.entries (jH (gG gs))).toList,x.born<gs.length:=λx U=>by
    obtain⟨j,g,aH,rfl⟩:=Ry U;have:=(a6.1 aH).1;rw[Ij]at this;exact this
   have AT:w.heap[rg]?=some (.map (T.entries (jH (gG gs))) gs.length):=by rw[aa,<-Ij];rfl
   rcases run_next_at (P:=Tryz.prog) w 0 it rg gs.length gs.length seen.toArray (T.entries (jH (gG gs))) gs.length I AT hold (Nat.le_refl _)with⟨aG,gA⟩|⟨e,he,w1,Oz,gA⟩
   .refine ⟨_,_,_,_,Sf rfl (by rw[DQ];exact gA),af.alF (l:=[.bool false]) (by intro v av;simp only[aA]at av;subst av;rfl) (some 97) (λd ah=>by cases ah;decide),?_⟩;refine dP.p0 cn 10 [96,98] [1] [] rfl (by decide) (aX:=[(96,.lit (.pointer (some ⟨it,0,none⟩))),(98,ej false)]) (by kernel_rfl) (dP.nil ⟨rfl,.inl ⟨by kernel_rfl,λj aH=>?_⟩⟩);have NL:(gG gs)[j]?=some ((gs[j]).1,s6 gs[j]):=by simp[gG,bB aH]
    have:=acn aG _ (Tm NL);simpa using this
   .obtain ⟨qH,u5⟩:=aco he;obtain⟨j,yG,aH,rfl⟩:=Ry qH;obtain⟨g,ak,rfl⟩:∃g,gs[j]?=some g/\(g.1,s6 g)=yG:=by
     unfold gG at aH;rw[b3,Option.map_eq_some_iff]at aH;exact aH
    have ve:eP 112 R M B w0 [(96,.lit (.pointer (some ⟨it,0,none⟩)))] ((it,.mapIter (some rg) gs.length seen.toArray gs.length)::AF) a w1:=by
     rcases Oz with rfl|rfl
     .exact af
     .exact af.drawn rfl rfl rfl rfl
    have mF:=(ve.lG (r:=it) (by simp) (.mapIter (some rg) gs.length (seen.toArray.push j) gs.length)).sub (X':=(it,.mapIter (some rg) gs.length (seen++[j]).toArray gs.length)::AF) (λb ag=>by
     rcases aQ.1 ag with rfl|ag
     .refine ba.2 ⟨(it,.mapIter (some rg) gs.length seen.toArray gs.length),by simp,?_⟩;rw[if_pos rfl];simp
     .exact ba.2 ⟨b,by simp[ag],if_neg (u_ b ag)⟩)
    refine⟨_,_,_,_,Sf rfl (by rw[DQ];exact gA),mF.bt (l1:=[.bool true,.string g.1]) (l:=[.map (some g.2.1),.map (some g.2.2.1),.map (some g.2.2.2)]) (l2:=[]) (by intro v av;simp only[aQ,aM,or_false]at av;rcases av with rfl|rfl<;>rfl) Lx (by simp) (some 97) (λd ah=>by cases ah;decide),?_⟩;exact dP.p0 cn 10 [96,98] [1] [] rfl (by decide) (aX:=[(96,.lit (.pointer (some ⟨it,0,none⟩))),(98,ej true)]) (by kernel_rfl) (dP.nil ⟨rfl,.inr ⟨j,g,ak,by simpa using u5,by kernel_rfl,rfl⟩⟩)
  rintro _ alY al4 ⟨rfl,⟨Nm,fH⟩|⟨j,g,ak,aH,Nm,rfl⟩⟩
  .refine ca.kD (by decide) _ Nm ?_;refine ca.seq (ca.cond (t:=false) (by kernel_rfl) (λh=>by cases h) (λ_=>ca.exit (.inl ⟨rfl,?_⟩)));rw[LS];intro x U;obtain⟨g,ak,aiV⟩:=ba.1 (c8.IS x U);obtain⟨j,aH⟩:=List.getElem?_of_mem ak;rw[<-aiV];exact cm j (fH j (a6.1 aH).1) g aH
  refine ca.kD (by decide) _ Nm ?_;refine ca.seq (ca.cond (t:=true) (by kernel_rfl) (λ_=>ca.skip ?_) (λh=>by cases h));have jy:j<gs.length:=(a6.1 ak).1;have Wc:g∈gs:=List.mem_of_getElem? ak;refine ca.block ?_;refine ca.seq (dP.region [0,1,2,3] rfl (dP.value rfl rfl λR M B w0 a w dM af=>?_));have DQ:a.eval (.tmp 96)=.pointer (some ⟨it,0,none⟩):=af.lit (E:=env) (x:=.tmp 96) (λt al=>by cases al;decide) (by kernel_rfl);have I:=af.heap (b:=(it,.mapIter (some rg) gs.length (seen++[j]).toArray gs.length)) (by simp);have aa:=af.heap (b:=(rg,kp (gG gs))) (by simp[WK]);have AT:w.heap[rg]?=some (.map (T.entries (jH (gG gs))) gs.length):=by rw[aa,<-Ij];rfl
  have yS:=Tm (gs:=gG gs) (j:=j) (g:=(g.1,s6 g)) (by unfold gG;rw[b3,ak];rfl);have gA:=run_entry_at (P:=Tryz.prog) w it rg gs.length seen.toArray _ gs.length _ (by rw[I];simp) AT yS (by rw[aa4];exact List.nodup_range);refine⟨_,_,_,_,ZV rfl (by rw[DQ];exact gA),af.bt (l1:=[.string g.1]) (l:=[.map (some g.2.1),.map (some g.2.2.1),.map (some g.2.2.2)]) (l2:=[]) (by intro v av;simp only[aA]at av;subst av;rfl) Lx (by simp) (some 99) (λd ah=>by cases ah;decide),?_⟩;clear gA yS AT aa I DQ af dM R M B w0 a w;refine dP.p0 cn 10 [96,19] [1,2,3] [] rfl (by decide) (aX:=[(96,.lit (.pointer (some ⟨it,0,none⟩))),(19,mA (some g.2.1) (some g.2.2.1) (some g.2.2.2))]) (by kernel_rfl) (dP.nil ?_);obtain⟨_,⟨h1,hD,pS⟩,_,_⟩:=c8.lH Wc (s2:=default) (d_:=default);have NZ:∀(ks:List ByteArray),goInt (T.entries (mg ks)).size=.int .i64 ks.length:=λks=>by rw[abq];rfl
  refine ca.seq (dP.region [0,1,2,3,4,5,6,7,8,9,10] rfl (dP.p0 cn 10 [96,19,102] [0,1] [2,3,4,5,6,7,8,9,10] rfl (by decide) (aX:=[(96,.lit (.pointer (some ⟨it,0,none⟩))),(19,mA (some g.2.1) (some g.2.2.1) (some g.2.2.2)),(102,mp g.2.1)]) (by kernel_rfl) (dP.value rfl rfl λR M B w0 a w dM af=>?_)));have aT:a.eval (.tmp 102)=.map (some g.2.1):=af.lit (E:=env) (x:=.tmp 102) (λt al=>by cases al;decide) (by kernel_rfl);have b_:=K_ (P:=Tryz.prog) (o:={ dst:=some 103,op:=.call { callee:=.builtin .len,args:=#[.tmp 102],argTypes:=#[85] },type:=3,pos:=default,guard:=none,after:=#[] }) rfl rfl aT infos.2.2.1 (af.heap (b:=(g.2.1,dX (jn L g.1))) (by simp[h1]));rw[NZ]at b_;refine⟨_,_,_,_,b_,af.I8 rfl (some 103) (λd ah=>by cases ah;decide),?_⟩;clear b_ aT af dM R M B w0 a w;refine dP.p0 cn 10 [96,19,103,105] [3,4] [5,6,7,8,9,10] rfl (by decide) (aX:=[(96,.lit (.pointer (some ⟨it,0,none⟩))),(19,mA (some g.2.1) (some g.2.2.1) (some g.2.2.2)),(103,.lit (.int .i64 (jn L g.1).length)),(105,mp g.2.2.1)]) (by kernel_rfl) (dP.value rfl rfl λR M B w0 a w dM af=>?_);have aT:a.eval (.tmp 105)=.map (some g.2.2.1):=af.lit (E:=env) (x:=.tmp 105) (λt al=>by cases al;decide) (by kernel_rfl);have b_:=K_ (P:=Tryz.prog) (o:={ dst:=some 106,op:=.call { callee:=.builtin .len,args:=#[.tmp 105],argTypes:=#[85] },type:=3,pos:=default,guard:=none,after:=#[] }) rfl rfl aT infos.2.2.1 (af.heap (b:=(g.2.2.1,dX (ka L g.1))) (by simp[hD]));rw[NZ]at b_;refine⟨_,_,_,_,b_,af.I8 rfl (some 106) (λd ah=>by cases ah;decide),?_⟩;clear b_ aT af dM R M B w0 a w;refine dP.p0 cn 10 [96,107,109] [6,7,8] [9,10] rfl (by decide) (aX:=[(96,.lit (.pointer (some ⟨it,0,none⟩))),(107,.lit (.int .i64 (IntKind.i64.wrap (((jn L g.1).length:Int)*((ka L g.1).length:Int))))),(109,mp g.2.2.2)]) (by kernel_rfl) (dP.value rfl rfl λR M B w0 a w dM af=>?_);have aT:a.eval (.tmp 109)=.map (some g.2.2.2):=af.lit (E:=env) (x:=.tmp 109) (λt al=>by cases al;decide) (by kernel_rfl);have b_:=K_ (P:=Tryz.prog) (o:={ dst:=some 110,op:=.call { callee:=.builtin .len,args:=#[.tmp 109],argTypes:=#[85] },type:=3,pos:=default,guard:=none,after:=#[] }) rfl rfl aT infos.2.2.1 (af.heap (b:=(g.2.2.2,dX (mQ L g.1))) (by simp[pS]));rw[NZ]at b_;refine⟨_,_,_,_,b_,af.I8 rfl (some 110) (λd ah=>by cases ah;decide),?_⟩;clear b_ aT af dM R M B w0 a w;refine dP.p0 cn 10 [96,111] [10] [] rfl (by decide) (aX:=[(96,.lit (.pointer (some ⟨it,0,none⟩))),(111,ej (IntKind.i64.wrap (((jn L g.1).length:Int)*((ka L g.1).length:Int))!=((mQ L g.1).length:Int)))]) (by kernel_rfl) (dP.nil ?_);rw[aaS aib];refine ca.cond (t:=((((jn L g.1).length*(ka L g.1).length:Nat):Int)!=((mQ L g.1).length:Int))) (by kernel_rfl) (λcI=>?_) (λheq=>ca.skip ?_)
  .refine ca.seq (ca.region cn hm 10 [4,5] (by decide) [(4,ej false),(5,.lit (.int .i64 0))] (by kernel_rfl) (ca.ret (.inr ⟨rfl,tj _ false 0 rfl rfl ?_⟩)));have:sf L=false:=by
    cases au:sf L with
    |false=>rfl
    |true=>
     obtain⟨x,U,aki⟩:=ba.1 (te g Wc);have:=LS.1 au x U;rw[aki]at this;unfold vq at this;rw[this]at cI;simp at cI
   rw[hr,this]
  .have l4:vq L g.1:=by
    unfold vq;have:((((jn L g.1).length*(ka L g.1).length:Nat):Int)=((mQ L g.1).length:Int)):=by simpa using heq
    exact Int.ofNat.inj this
   have Wx:(seen++[j]).Nodup:=by
    rw[List.nodup_append];exact⟨l6,by simp,λx U y aw=>by simp only[aA]at aw;subst aw;rintro rfl;exact aH U⟩
   have Io:∀x∈seen++[j],x<gs.length:=λx U=>by
    rcases bo.1 U with U|U
    .exact bU x U
    .simp only[aA]at U;subst U;exact jy
   have aj4:(seen++[j]).length<=gs.length:=by
    have:=Wx.length_le_of_subset (l₂:=b5 gs.length) (λx U=>cu.2 (Io x U));simpa using this
   refine⟨seen++[j],by simp only[List.length_append,List.length_singleton]at aj4⊢;omega,by kernel_rfl,rfl,Wx,Io,λx U fG hL=>?_⟩;rcases bo.1 U with U|U
   .exact cm x U fG hL
   .simp only[aA]at U;subst U;rw[ak]at hL;cases hL;exact l4
end Go.aS.pq
