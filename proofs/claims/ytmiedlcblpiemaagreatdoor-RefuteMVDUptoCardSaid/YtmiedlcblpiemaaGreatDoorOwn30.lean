/- An interpreter of function bodies, sound. No conditions. -/
import Derived.Test.YtmiedlcblpiemaaGreatDoorOwn24
import Derived.Test.YtmiedlcblpiemaaGreatDoorOwn27
set_option linter.all false
open List renaming mem_map->zA,map_cons->zB,mem_cons->zC,map_append->zD,nodup_iff_pairwise_ne->zE,not_mem_nil->zF,nodup_cons->zG,mem_flatMap->zH,mem_append->zI,flatMap_append->zK,toList_toArray->zL,flatMap_cons->zM,length_map->zN,length_nil->zO,pairwise_flatMap->zP,mem_cons_of_mem->zQ,map_nil->zR,mem_singleton->zS,nodup_append->zT,length_cons->zV,append_nil->zW
open Prod renaming fst->zU
namespace Go.Own
open D
abbrev Grp:=ByteArray×Nat×Nat×Nat
def gv(g:Grp):Value:=.agg ([Value.map (some g.2.1),.map (some g.2.2.1),.map (some g.2.2.2)]:List Value).toArray
def gKV(gs:List Grp):List (ByteArray×Value):=gs.map fun g=>(g.1,gv g)
def rs3(g:Grp):List Nat:=[g.2.1,g.2.2.1,g.2.2.2]
def set1(L:List Key3)(s:ByteArray):List ByteArray:=dd ((grpH L s).map fun y=>y.2.1)
def set2(L:List Key3)(s:ByteArray):List ByteArray:=dd ((grpH L s).map fun y=>y.2.2)
def set3(L:List Key3)(s:ByteArray):List ByteArray:=dd ((grpH L s).map fun y=>y.2.1++y.2.2)
def XG1(L:List Key3)(g:Grp):List (Nat×Obj):=[(g.2.1,sMap (set1 L g.1)),(g.2.2.1,sMap (set2 L g.1)),(g.2.2.2,sMap (set3 L g.1))]
def XG(L:List Key3)(gs:List Grp):List (Nat×Obj):=gs.flatMap (XG1 L)
structure StH(rg:Nat)(L:List Key3)(gs:List Grp)(X:List (Nat×Obj)):Prop where
 hX:X=(rg,gMap (gKV gs))::XG L gs
 nd:(rg::gs.flatMap rs3).Nodup
 kn:(gs.map (·.1)).Nodup
 kL:∀y∈L,y.1∈gs.map (·.1)
theorem Bc7{L:List Key3}{gs:List Grp}:(XG L gs).map zU=gs.flatMap rs3:=by
 unfold XG
 induction gs with
 |nil=>rfl
 |cons g gs ih=>rw[zM,zD,ih,zM];rfl
theorem StH.init(rg:Nat):StH rg [] [] ((rg,gMap [])::[]):=⟨rfl,by simp,by simp,by simp⟩
theorem Bft{L:List Key3}{s:ByteArray}(h:s ∉ L.map (·.1)):grpH L s=[]:=by
 unfold grpH;rw[List.filter_eq_nil_iff];intro y hy he;exact h (zA.2 ⟨y,hy,(Adl _ _).1 he⟩)
theorem Aty{gs:List Grp}{s:ByteArray}(h:s ∉ gs.map (·.1)):Agr s (gKV gs)=none:=by
 unfold Agr gKV;rw[List.find?_eq_none.2]
 .rfl
 .intro x hx he;obtain⟨g,hg,rfl⟩:=zA.1 hx;exact h (zA.2 ⟨g,hg,(Adl _ _).1 he⟩)
theorem Atz:∀{gs:List Grp}{s:ByteArray},s∈gs.map (·.1)->∃g∈gs,g.1=s/\Agr s (gKV gs)=some (gv g)
 |[],_,h=>by cases h
 |g::gs,s,h=>by
  by_cases he:(g.1==s)=true
  .refine ⟨g,by simp,(Adl _ _).1 he,?_⟩;simp[Agr,gKV,he]
  .have hne:(g.1==s)=false:=by simpa using he
   have hs:s∈gs.map (·.1):=by
    rw[zB]at h;rcases zC.1 h with h|h
    .exact absurd ((Adl _ _).2 h.symm) he
    .exact h
   obtain⟨g',h1,h2,h3⟩:=Atz hs;refine⟨g',by simp[h1],h2,?_⟩;unfold Agr gKV at h3⊢;rw[zB,List.find?_cons];simp only[hne];exact h3
theorem Blx{L:List Key3}{gs:List Grp}{s:ByteArray}{r1 r2 r3:Nat}(h:s ∉ L.map (·.1)):XG L (gs++[(s,r1,r2,r3)])=XG L gs++[(r1,sMap []),(r2,sMap []),(r3,sMap [])]:=by
 unfold XG;rw[zK];simp only[zM,List.flatMap_nil,zW,XG1,set1,set2,set3,Bft h];rfl
theorem StH.push{rg:Nat}{L:List Key3}{gs:List Grp}{X:List (Nat×Obj)}(h:StH rg L gs X){s:ByteArray}(hs:s ∉ gs.map (·.1)){r1 r2 r3:Nat}(hf:∀r∈[r1,r2,r3],r ∉ X.map zU)(hn:[r1,r2,r3].Nodup):
  StH rg L (gs++[(s,r1,r2,r3)]) ((rg,gMap (gKV gs++[(s,gv (s,r1,r2,r3))]))::(XG L gs++[(r1,sMap []),(r2,sMap []),(r3,sMap [])])):=by
 have hL:s ∉ L.map (·.1):=fun hh=>by
  obtain⟨y,hy,rfl⟩:=zA.1 hh;exact hs (h.kL y hy)
 have hk:∀r∈[r1,r2,r3],r≠rg/\r ∉ gs.flatMap rs3:=fun r hr=>by
  have:=hf r hr;rw[h.hX,zB,Bc7]at this;simpa using this
 refine⟨?_,?_,?_,fun y hy=>?_⟩
 .rw [Blx hL];unfold gKV;rw[zD];rfl
 .rw [zK];have e:[(s,r1,r2,r3)].flatMap rs3=[r1,r2,r3]:=rfl;rw[e,<-List.cons_append,zT];refine⟨h.nd,hn,fun x hx y hy=>?_⟩;obtain⟨h1,h2⟩:=hk y hy;rintro rfl;rcases zC.1 hx with hx|hx
  .exact h1 hx
  .exact h2 hx
 .rw [zD,zT];refine⟨h.kn,by simp,fun x hx y hy=>?_⟩;simp only[zB,zR,zS]at hy;subst hy;rintro rfl;exact hs hx
 .rw [zD];exact List.mem_append_left _ (h.kL y hy)
theorem Ax3{L:List Key3}{y:Key3}{s:ByteArray}:grpH (L++[y]) s=if(y.1==s)=true then grpH L s++[y]else grpH L s:=by
 unfold grpH;rw[List.filter_append];by_cases h:(y.1==s)=true
 .rw [if_pos h];simp[h]
 .rw [if_neg h];simp[h]
theorem Bm4{l:List ByteArray}{k:ByteArray}:dd (l++[k])=sIns k (dd l):=by
 unfold dd;rw[List.foldl_append];rfl
theorem StH.upd{rg:Nat}{L:List Key3}{gs:List Grp}{X:List (Nat×Obj)}(h:StH rg L gs X){g:Grp}(hg:g∈gs){s2 s3:ByteArray}:
  StH rg (L++[(g.1,s2,s3)]) gs ((rg,gMap (gKV gs))::XG (L++[(g.1,s2,s3)]) gs) /\
  ((g.2.1,sMap (set1 L g.1))∈X/\(g.2.2.1,sMap (set2 L g.1))∈X/\(g.2.2.2,sMap (set3 L g.1))∈X)/\(g.2.1≠g.2.2.1/\g.2.1≠g.2.2.2/\g.2.2.1≠g.2.2.2) /\
  ∀b∈(rg,gMap (gKV gs))::XG (L++[(g.1,s2,s3)]) gs,b∈setX g.2.2.2 (sMap (sIns (s2++s3) (set3 L g.1))) (setX g.2.2.1 (sMap (sIns s3 (set2 L g.1))) (setX g.2.1 (sMap (sIns s2 (set1 L g.1))) X)):=by
 have mem:∀b∈XG1 L g,b∈X:=fun b hb=>by
  rw[h.hX];exact zQ _ (zH.2 ⟨g,hg,hb⟩)
 have nd3:(rs3 g).Nodup:=by
  have:=(zG.1 h.nd).2;rw[zE,zP]at this;rw[zE];exact this.1 g hg
 have n3:g.2.1≠g.2.2.1/\g.2.1≠g.2.2.2/\g.2.2.1≠g.2.2.2:=by
  simp only[rs3,zG,zC,zF,or_false,not_or]at nd3;exact⟨nd3.1.1,nd3.1.2,nd3.2.1⟩
 refine⟨⟨rfl,h.nd,h.kn,fun y hy=>?_⟩,⟨mem _ (by simp[XG1]),mem _ (by simp[XG1]),mem _ (by simp[XG1])⟩,n3,?_⟩
 .rcases zI.1 hy with hy|hy
  .exact h.kL y hy
  .simp only[zS]at hy;subst hy;exact zA.2 ⟨g,hg,rfl⟩
 ·
  have st:∀(b:Nat×Obj),b∈X->b.1≠g.2.1->b.1≠g.2.2.1->b.1≠g.2.2.2->b∈setX g.2.2.2 (sMap (sIns (s2++s3) (set3 L g.1))) (setX g.2.2.1 (sMap (sIns s3 (set2 L g.1))) (setX g.2.1 (sMap (sIns s2 (set1 L g.1))) X)):=fun b hb h1 h2 h3=>
   zA.2 ⟨b,zA.2 ⟨b,zA.2 ⟨b,hb,if_neg h1⟩,if_neg h2⟩,if_neg h3⟩
  intro b hb;rcases zC.1 hb with rfl|hb
  .have hrg:=(zG.1 h.nd).1;have:∀r∈rs3 g,rg≠r:=fun r hr he=>hrg (zH.2 ⟨g,hg,he ▸ hr⟩);exact st _ (by rw[h.hX];simp) (this _ (by simp[rs3])) (this _ (by simp[rs3])) (this _ (by simp[rs3]))
  .obtain ⟨g',hg',hb'⟩:=zH.1 hb;by_cases he:g'=g
   .subst he;have e0:((g'.1==g'.1)=true):=(Adl _ _).2 rfl;simp only[XG1,set1,set2,set3,Ax3,if_pos e0,zD,zB,zR,Bm4]at hb';simp only[zC,zF,or_false]at hb';rcases hb' with rfl|rfl|rfl
    .refine zA.2 ⟨_,zA.2 ⟨_,zA.2 ⟨_,mem (g'.2.1,sMap (set1 L g'.1)) (by simp[XG1]),if_pos rfl⟩,if_neg ?_⟩,if_neg ?_⟩
     .exact n3.1
     .exact n3.2.1
    .refine zA.2 ⟨_,zA.2 ⟨_,zA.2 ⟨_,mem (g'.2.2.1,sMap (set2 L g'.1)) (by simp[XG1]),if_neg ?_⟩,if_pos rfl⟩,if_neg ?_⟩
     .exact n3.1.symm
     .exact n3.2.2
    .refine zA.2 ⟨_,zA.2 ⟨_,zA.2 ⟨_,mem (g'.2.2.2,sMap (set3 L g'.1)) (by simp[XG1]),if_neg ?_⟩,if_neg ?_⟩,if_pos rfl⟩
     .exact n3.2.1.symm
     .exact n3.2.2.symm
   .have hk:g'.1≠g.1:=fun hk=>he (by
     have hn:=h.kn;rw[zE,List.pairwise_map]at hn;rcases Ayj hn hg' hg with h|h|h
     .exact h
     .exact absurd hk h
     .exact absurd hk.symm h)
    have ne0:¬(g.1==g'.1)=true:=fun hq=>hk ((Adl _ _).1 hq).symm;have eX:XG1 (L++[(g.1,s2,s3)]) g'=XG1 L g':=by
     simp only[XG1,set1,set2,set3,Ax3,if_neg ne0]
    rw[eX]at hb';have hbX:b∈X:=by rw[h.hX];exact zQ _ (zH.2 ⟨g',hg',hb'⟩)
    have hb1:b.1∈rs3 g':=by
     simp only[XG1,zC,zF,or_false]at hb';rcases hb' with rfl|rfl|rfl<;>simp[rs3]
    have dis:∀r∈rs3 g,b.1≠r:=fun r hr hrb=>by
     have:=(zG.1 h.nd).2;rw[zE,zP]at this;rcases Ayj this.2 hg' hg with h|h|h
     .exact he h
     .exact h _ hb1 _ hr hrb
     .exact h _ hr _ hb1 hrb.symm
    exact st b hbX (dis _ (by simp[rs3])) (dis _ (by simp[rs3])) (dis _ (by simp[rs3]))
section
variable{P:Program}{o:Oper}{a:Act}{w:World}
theorem Ai4{t:Nat}(ho:o.op=.makeMap t none):(execOp a.eval o).run P w=.ok (.value (.map (some w.heap.size))) (w.alloc (.map #[] 0)):=by
 simp only[execOp,ho,Option.map_none,Instr.makeMap,Sem.run_bind,Sem.run_pure,Result.andThen_ok,run_newObj];rfl
theorem Asm{t r:Nat}{x:Operand}{c:Call}(ho:o.op=.call c)(hc:c={ callee:=.builtin .len,args:=#[x],argTypes:=#[t] })(hx:a.eval x=.map (some r)){kt e cl:Nat}{es:Array MapEntry}(hut:P.underlying t=some (.map kt e))(hh:w.heap[r]?=some (.map es cl)):
  (execOp a.eval o).run P w=.ok (.value (goInt es.size)) w:=by
 have hrun:=Bbx (P:=P) (t:=t) (kt:=kt) (e:=e) (w:=w) (r:=r) (u:=o.type) hut hh;subst hc;simp only[execOp,ho,resolve,Sem.run_bind,Sem.run_pure,Result.andThen_ok,invoke,builtin,List.map_toArray,zB,zR,hx,hrun]
theorem Arn{t:Nat}{x k:Operand}(ho:o.op=.lookup t x k true){v:Value}(h:(Instr.lookup t (a.eval x) (a.eval k) true).run P w=.ok v w):(execOp a.eval o).run P w=.ok (.value v) w:=by
 simp only[execOp,ho,Sem.run_bind,h,Result.andThen_ok,Sem.run_pure]
theorem Bbn{t:Nat}{m k v:Operand}(ho:o.op=.mapUpdate t m k v){w':World}(h:(Instr.mapUpdate t (a.eval m) (a.eval k) (a.eval v)).run P w=.ok () w'):(execOp a.eval o).run P w=.ok .skip w':=by
 simp only[execOp,ho,Sem.run_bind,h,Result.andThen_ok,Sem.run_pure]
theorem Bdi{t:Nat}{x:Operand}(ho:o.op=.range t x){v:Value}{w':World}(h:(Instr.range t (a.eval x)).run P w=.ok v w'):(execOp a.eval o).run P w=.ok (.value v) w':=by
 simp only[execOp,ho,Sem.run_bind,h,Result.andThen_ok,Sem.run_pure]
theorem Aww{x:Operand}(ho:o.op=.next x false){v:Value}{w':World}(h:(Instr.next (a.eval x) false o.type).run P w=.ok v w'):(execOp a.eval o).run P w=.ok (.value v) w':=by
 simp only[execOp,ho,Sem.run_bind,h,Result.andThen_ok,Sem.run_pure]
theorem Bdh{x:Operand}(ho:o.op=.entry x){v:Value}{w':World}(h:(Instr.entry (a.eval x)).run P w=.ok v w'):(execOp a.eval o).run P w=.ok (.value v) w':=by
 simp only[execOp,ho,Sem.run_bind,h,Result.andThen_ok,Sem.run_pure]
end
def lf(v:Value):T:=.leaf (.lit v) v
def ag3(l:List Value):T:=.agg (l.map lf)
theorem Bgu{M:Mem}:∀{l:List Value},(∀v∈l,v.oneCell'=true)->T.wfC M (l.map lf)
 |[],_=>by simp[T.wfC]
 |v::l,h=>by
  simp only[zB,T.wfC,lf,T.wf,RI];exact⟨.inr ⟨trivial,h v (by simp)⟩,Bgu fun u hu=>h u (by simp[hu])⟩
theorem At1:∀{l:List Value},T.tidyC (l.map lf)
 |[]=>by simp[T.tidyC]
 |v::l=>by
  simp only[zB,T.tidyC];exact⟨by simp[lf,T.tidy],At1⟩
theorem Asj:∀{l:List Value},T.eraseC (l.map lf)=l.map D.lit
 |[]=>rfl
 |v::l=>by simp only[zB,T.eraseC,Asj];rfl
theorem Aw8:∀{l:List Value},T.vals (l.map lf)=l
 |[]=>rfl
 |v::l=>by simp only[zB,T.vals,Aw8];rfl
theorem Apd:∀{l:List Value},T.blocksC (l.map lf)=[]
 |[]=>rfl
 |v::l=>by simp only[zB,T.blocksC,Apd];rfl
theorem Avd{g:Grp}:∀v∈([Value.map (some g.2.1),.map (some g.2.2.1),.map (some g.2.2.2)]:List Value),v.oneCell'=true:=by
 intro v hv;simp only[zC,zF,or_false]at hv;rcases hv with rfl|rfl|rfl<;>rfl
section
variable{n:Nat}{R:Nat->Value}{M:Mem}{B:List Nat}{w0:World}{a:Act}{w:World}{F:Fr}{X:List (Nat×Obj)}
theorem Aav.tup(h:Aav n R M B w0 F X a w){l1 l l2:List Value}(h1:∀v∈l1,v.oneCell'=true)(h0:∀v∈l,v.oneCell'=true)(h2:∀v∈l2,v.oneCell'=true)(dst:Option Nat)(hd:∀d,dst=some d->d<n):
  Aav n R M B w0 (fin F dst (.tup (l1.map D.lit++.agg (l.map D.lit)::l2.map D.lit))) X (a.put dst (.tuple (l1++.agg l.toArray::l2).toArray)) w:=by
 have app1:∀(x y:List T),T.eraseC (x++y)=T.eraseC x++T.eraseC y:=fun x y=>by rw[T.eraseC_eq,T.eraseC_eq,T.eraseC_eq,zD]
 have app2:∀(x y:List T),T.vals (x++y)=T.vals x++T.vals y:=fun x y=>by rw[T.vals_eq,T.vals_eq,T.vals_eq,zD]
 have app3:∀(x y:List T),T.blocksC (x++y)=T.blocksC x++T.blocksC y:=fun x y=>by rw[T.blocksC_eq,T.blocksC_eq,T.blocksC_eq,zK]
 have:=h.put (t:=.tup (l1.map lf++ag3 l::l2.map lf)) (by
  simp only[T.tidy,T.tidyC_iff];intro x hx;rcases zI.1 hx with hx|hx
  .obtain ⟨v,_,rfl⟩:=zA.1 hx;simp[lf,T.tidy]
  .rcases zC.1 hx with rfl|hx
   .simp only[ag3,T.tidy];exact At1
   .obtain ⟨v,_,rfl⟩:=zA.1 hx;simp[lf,T.tidy]) (fun M G=>by
  simp only[Aat];intro x hx;rcases zI.1 hx with hx|hx
  .obtain ⟨v,hv,rfl⟩:=zA.1 hx;simp only[lf,Afk,RI];exact .inr ⟨trivial,h1 v hv⟩
  .rcases zC.1 hx with rfl|hx
   .simp only[ag3,Afk];exact Bgu h0
   .obtain ⟨v,hv,rfl⟩:=zA.1 hx;simp only[lf,Afk,RI];exact .inr ⟨trivial,h2 v hv⟩) (by
  simp only[T.blocks,app3,Apd,T.blocksC,ag3,List.nil_append,zW]) dst hd
 have e1:T.erase (.tup (l1.map lf++ag3 l::l2.map lf))=.tup (l1.map D.lit++.agg (l.map D.lit)::l2.map D.lit):=by
  simp only[T.erase,app1,Asj,T.eraseC,ag3]
 have e2:T.val (.tup (l1.map lf++ag3 l::l2.map lf))=.tuple (l1++.agg l.toArray::l2).toArray:=by
  simp only[T.val,app2,Aw8,T.vals,ag3]
 rw[e1,e2]at this;exact this
theorem Aav.tup0(h:Aav n R M B w0 F X a w){l:List Value}(h1:∀v∈l,v.oneCell'=true)(dst:Option Nat)(hd:∀d,dst=some d->d<n):
  Aav n R M B w0 (fin F dst (.tup (l.map D.lit))) X (a.put dst (.tuple l.toArray)) w:=by
 have:=h.put (t:=.tup (l.map lf)) (by
  simp only[T.tidy];exact At1) (fun M G=>by
  simp only[Aat];intro x hx;obtain⟨v,hv,rfl⟩:=zA.1 hx;simp only[lf,Afk,RI];exact .inr ⟨trivial,h1 v hv⟩) (by
  simp only[T.blocks,Apd]) dst hd
 have e1:T.erase (.tup (l.map lf))=.tup (l.map D.lit):=by simp only[T.erase,Asj]
 have e2:T.val (.tup (l.map lf))=.tuple l.toArray:=by simp only[T.val,Aw8]
 rw[e1,e2]at this;exact this
end
theorem ToMX.opsEq{E:Env}{n id:Nat}{ops ops':Array Oper}{d:Bool}{F:Fr}{X:List (Nat×Obj)}{Q:Ex->Fr->List (Nat×Obj)->Prop}(h:ops=ops')(k:ToMX E n (.region id ops' d) F X Q):ToMX E n (.region id ops d) F X Q:=by rw[h];exact k
theorem ToMX.weak{E:Env}{n:Nat}{cd:Code}{F:Fr}{X:List (Nat×Obj)}{Q:Ex->Fr->List (Nat×Obj)->Prop}(h:ToMX E n cd F X fun e F X=>∃X',(∀b∈X',b∈X)/\Q e F X'):ToMX E n cd F X Q:=by
 intro R M B w0 a w Qw hf hg hp hQ;refine h R M B w0 a w Qw hf hg hp ?_;rintro e F' X' a' w' ⟨X2,hs,q⟩ hp';exact hQ e F' X2 a' w' q (hp'.sub hs)
theorem WX.runV{E:Env}{n:Nat}{F F1:Fr}{X:List (Nat×Obj)}{Q:Ex->Fr->List (Nat×Obj)->Prop}{call:Nat->List D->Option (D×List D)}{ops:Array Oper}(hcall:Acr E call)(f:Nat)(V l rest:List Nat){l0:List Nat}(hl:l0=l++rest)(hV:V.Nodup)(h:(opsC E f V call ops l F).map (norm V)=some F1)(k:WX E n ops rest F1 X Q):WX E n ops l0 F X Q:=by
 rw[Option.map_eq_some_iff]at h;obtain⟨F2,h1,h2⟩:=h;exact WX.run hcall f V l rest hl h1 (WX.normed hV F1 h2 k)
theorem StH.push_sub{rg:Nat}{L:List Key3}{gs:List Grp}{X:List (Nat×Obj)}(h:StH rg L gs X){r1 r2 r3:Nat}(hf:∀r∈[r1,r2,r3],r ∉ X.map zU)(o:Obj):
  ∀b∈(rg,o)::(XG L gs++[(r1,sMap []),(r2,sMap []),(r3,sMap [])]),b∈setX rg o ((r3,.map #[] 0)::(r2,.map #[] 0)::(r1,.map #[] 0)::X):=by
 have hrg:rg∈X.map zU:=by rw[h.hX];simp
 have hne:∀r∈[r1,r2,r3],r≠rg:=fun r hr he=>hf r hr (he ▸ hrg);intro b hb;rcases zC.1 hb with rfl|hb
 .refine zA.2 ⟨(rg,gMap (gKV gs)),?_,if_pos rfl⟩;rw[h.hX];simp
 rcases zI.1 hb with hb|hb
 .have hbk:b.1≠rg:=fun he=>by
   have:=(zG.1 h.nd).1;rw[<-Bc7 (L:=L)]at this;exact this (he ▸ zA.2 ⟨b,hb,rfl⟩)
  refine zA.2 ⟨b,?_,if_neg hbk⟩;rw[h.hX];simp[hb]
 .simp only[zC,zF,or_false]at hb;rcases hb with rfl|rfl|rfl
  .exact zA.2 ⟨(r1,.map #[] 0),by simp,if_neg (hne _ (by simp))⟩
  .exact zA.2 ⟨(r2,.map #[] 0),by simp,if_neg (hne _ (by simp))⟩
  .exact zA.2 ⟨(r3,.map #[] 0),by simp,if_neg (hne _ (by simp))⟩
theorem Au0{gs:List (ByteArray×Value)}{e:MapEntry}(h:e∈(T.entries (gEnt gs)).toList):∃j g,gs[j]?=some g/\e={ key:=.string g.1,val:=g.2,born:=j }:=by
 unfold T.entries at h;simp only[zL,zA]at h;obtain⟨x,hx,rfl⟩:=h;obtain⟨j,hj⟩:=List.getElem?_of_mem hx;obtain⟨g,h1,rfl⟩:=Azr hj;exact⟨j,g,h1,rfl⟩
theorem Azs{gs:List (ByteArray×Value)}{j:Nat}{g:ByteArray×Value}(h:gs[j]?=some g):({ key:=.string g.1,val:=g.2,born:=j }:MapEntry)∈(T.entries (gEnt gs)).toList:=by
 unfold T.entries;simp only[zL,zA];refine⟨(.string g.1,j,.undef,g.2),List.mem_of_getElem? (i:=j) ?_,rfl⟩;unfold gEnt;rw[List.getElem?_map,List.getElem?_zipIdx,h];simp
theorem Bfq{gs:List (ByteArray×Value)}:(T.entries (gEnt gs)).toList.map (·.born)=List.range gs.length:=by
 unfold T.entries gEnt;rw[zL,List.map_map,List.map_map];have:∀(l:List (ByteArray×Value))(m:Nat),(l.zipIdx m).map (((fun x:MapEntry=>x.born) ∘ fun x:Value×Nat×D×Value=>({ key:=x.1,val:=x.2.2.2,born:=x.2.1 }:MapEntry)) ∘ fun x:(ByteArray×Value)×Nat=>((Value.string x.1.1:Value),x.2,D.undef,x.1.2))=List.range' m l.length:=by
  intro l
  induction l with
  |nil=>intro m;rfl
  |cons a l ih=>intro m;simp only[List.zipIdx_cons,zB,zV,List.range'_succ,ih (m+1)];rfl
 rw[List.range_eq_range'];exact this gs 0
theorem Bgk{ks:List ByteArray}:(T.entries (sEnt ks)).size=ks.length:=by simp[T.entries,sEnt]
theorem Ayd:∀(l acc:List ByteArray),(l.foldl (fun acc k=>sIns k acc) acc).length<=acc.length+l.length
 |[],acc=>by simp
 |k::l,acc=>by
  have h1:=Ayd l (sIns k acc);have h2:(sIns k acc).length<=acc.length+1:=by
   unfold sIns
   split
   .omega
   .simp
  simp only[List.foldl_cons,zV]at h1⊢;omega
theorem Boe{L:List Key3}{s:ByteArray}:(set1 L s).length<=L.length/\(set2 L s).length<=L.length/\(set3 L s).length<=L.length:=by
 have hg:(grpH L s).length<=L.length:=List.length_filter_le _ _;refine⟨?_,?_,?_⟩
 .have:=Ayd ((grpH L s).map fun y=>y.2.1) [];simp only[zN,zO]at this;show(dd _).length<=_;unfold dd;omega
 .have:=Ayd ((grpH L s).map fun y=>y.2.2) [];simp only[zN,zO]at this;show(dd _).length<=_;unfold dd;omega
 .have:=Ayd ((grpH L s).map fun y=>y.2.1++y.2.2) [];simp only[zN,zO]at this;show(dd _).length<=_;unfold dd;omega
def okK(L:List Key3)(s:ByteArray):Prop:=(set1 L s).length*(set2 L s).length=(set3 L s).length
theorem Avy{L:List Key3}:okH L=true↔∀x∈L,okK L x.1:=by
 unfold okH;rw[List.all_eq_true];refine⟨fun h x hx=>?_,fun h x hx=>?_⟩
 .have:=h x hx;simpa[okK,set1,set2,set3]using this
 .have:=h x hx;simpa[okK,set1,set2,set3]using this
theorem Bff{L:List Key3}{s:ByteArray}(h:L.length<=1000000):IntKind.i64.wrap (((set1 L s).length:Int)*((set2 L s).length:Int))=(((set1 L s).length*(set2 L s).length:Nat):Int):=by
 obtain⟨h1,h2,_⟩:=Boe (L:=L) (s:=s);have h3:(set1 L s).length*(set2 L s).length<=1000000*1000000:=Nat.mul_le_mul (by omega) (by omega);rw[<-Int.natCast_mul];generalize(set1 L s).length*(set2 L s).length=p at h3⊢;rw[IntKind.wrap_i64];omega
theorem Bi5{es:Array MapEntry}{seen:Array Nat}(h:(leftOf es seen).size=0):∀e∈es.toList,e.born∈seen.toList:=by
 intro e he;have h0:leftOf es seen=#[]:=Array.eq_empty_of_size_eq_zero h;unfold leftOf at h0;rw[Array.filter_eq_empty_iff]at h0;have:=h0 e (by simpa using he);simpa using this
theorem Bi6{es:Array MapEntry}{seen:Array Nat}{e:MapEntry}(h:e∈(leftOf es seen).toList):e∈es.toList/\e.born ∉ seen.toList:=by
 unfold leftOf at h;simp only[Array.mem_toList_iff,Array.mem_filter]at h;refine⟨by simpa using h.1,?_⟩;have:=h.2;simpa using this
end Go.Own
