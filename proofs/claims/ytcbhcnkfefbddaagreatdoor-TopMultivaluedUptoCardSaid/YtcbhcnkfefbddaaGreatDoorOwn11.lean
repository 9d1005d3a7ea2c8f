/- An interpreter of function bodies, sound. No conditions. -/
import Derived.Laws.Tables
import Derived.Test.YtcbhcnkfefbddaaGreatDoorOwn10
set_option linter.all false
open List renaming map_append->aA
namespace Go.aS
open D
section
variable{n:Nat}{R:Nat->Value}{M:Mem}{F aD:Fr}{G:bK}{H:dD}{a:Act}{w:World}
theorem Q9{P:Program}:∀{fs:List Field},(fs.all λf=>(P.info? f.type).isSome)=true->fs.mapM (λf=>(P.info? f.type).map λi=>(f.offset,i.size))=some (fs.map λf=>(f.offset,aY P f.type))
 |[],_=>rfl
 |f::fs,h=>by
  simp only[List.all_cons,Bool.and_eq_true]at h;obtain⟨i,hi⟩:=Option.isSome_iff_exists.1 h.1;simp[List.mapM_cons,hi,Q9 h.2,aY]
theorem cJ.ak3{B:List Nat}{aX:Fr}{bQ:bK}{t:T}(h:Inv n R M aX bQ (t.blocks++[]) a w)(al:t.tidy)(ae:fg M bQ t)(dst:Option Nat)(ah:∀d,dst=some d->d<n)
  (e:∀g∈keys (a8 bQ++(t.blocks++[])),g∈B):cJ n R M B w (fin aX dst t.erase) (a.put dst t.val) w:=
 kM h al ae dst ah (cN.mf M w e)
theorem Inv.less(h:Inv n R M F G H a w){rv:dD}{rest:dD}(p:(rv++rest).Perm H):Inv n R M F G rv a w:=
 {h with bd:=h.bd.xG (B:=rest) (by rw[List.append_assoc];exact List.Perm.append_left _ p) }
theorem Sub.less{A B C rest:dD}(p:(B++rest).Perm C):Sub (A++B) (A++C):=by
 intro g ak;simp only[aA,List.mem_append]at ak⊢;rcases ak with ak|ak
 .exact .inl ak
 .right;refine(p.map Prod.fst).mem_iff.1 ?_;rw[aA];exact List.mem_append_left _ ak
theorem S6{E:Env}(h:Inv n R M F G [] a w){t:Nat}{parts:Array (Nat×Operand)}(U:∀p∈parts.toList,Fits n p.2){z:D}(aG:fC E.P t=some z){az:List (Nat×D)}{aX:Fr}(al:iL E F parts.toList=some (az,aX))
  {place:Nat->Option (Nat×Nat)} (ag:∀(cells:List (Nat×Value))(lJ:Value),(E.P.info? t).bind (·.zero)=some lJ->E.P.built t cells=Instr.fill place lJ.cells cells) {cs:List D} (hf:rL place z.cells az=some cs) (dst:Option Nat) (ah:∀d,dst=some d->d<n):
  ∃v,(Instr.build t (parts.map λx=>(x.1,a.eval x.2))).run E.P w=.ok v w/\cJ n R M (keys (a8 G)) w (fin aX dst (.agg cs)) (a.put dst v) w:=by
 obtain⟨i,tS,u,I,aa,rfl,rfl,bO,c7,gp⟩:=v_ (M:=M) aG;obtain⟨ts,bQ,cb,cK,cS,dh,dr⟩:=Alt _ h U al;obtain⟨cF,ck,dG,fh,e0⟩:=q_ c7 bO;rw[<-cF,<-cb]at hf;obtain⟨gM,aT,a5,ez,eK,rest,jk⟩:=Td ts cS dG fh hf;rw[e0,gp,List.nil_append]at jk;have hi:Inv n R M aX bQ ((T.agg gM).blocks++[]) a w:=by
  refine dh.less (rest:=rest) ?_;simpa[T.blocks]using jk
 have:=cJ.ak3 (B:=keys (a8 G)) hi ez (p6 (show dV M (.agg gM)from eK)) dst ah (λg ak=>by
  have I:=Sub.less (A:=a8 bQ) (B:=(T.agg gM).blocks++[]) (C:=T.bq (ts.map Prod.snd)++[]) (rest:=rest) (by simpa[T.blocks]using jk) g ak;have aa:=dr g I
  simpa[keys]using aa)
 simp only[T.erase,T.hz,aT]at this;refine⟨_,?_,this⟩;rw[T.val];refine run_build w t _ _ ?_;have hl:(parts.map λx=>(x.1,a.eval x.2)).toList=ts.map λx=>(x.1,x.2.val):=by
  rw[Array.toList_map,cK]
 rw[hl,ag _ u.val (by simp[I,aa])];have:u.val.cells=(T.bP u.cells).toArray:=by rw[ck]
 rw[this];exact a5
end
end Go.aS
