/- An interpreter of function bodies, sound. No conditions. -/
import Derived.Laws.BitsLemmas
import Derived.Test.YtcbhcnkfefbddaaGreatDoorOwn16
import Derived.Test.YtcbhcnkfefbddaaGreatDoorOwn18
import Derived.Test.YtcbhcnkfefbddaaGreatDoorOwn19
set_option linter.all false
open Prod.mk renaming injEq->aA
open List.cons renaming injEq->aM
namespace Go.aS
theorem eO{O:Type}{l:List O}{k:Nat}{x:O}{r:List O}(h:l.drop k=x::r):l[k]?=some x:=by
 have:(l.drop k)[0]?=some x:=by rw[h];rfl
 simpa using this
theorem e4{O:Type}{l:List O}{k:Nat}{x:O}{r:List O}(h:l.drop k=x::r):l.drop (k+1)=r:=by
 have:(l.drop k).drop 1=r:=by rw[h];rfl
 rw[List.drop_drop]at this;exact this
theorem gl{O:Type}{l:List O}{k:Nat}{x:O}{r:List O}(h:l.drop k=x::r):k<l.length:=by
 rcases Nat.lt_or_ge k l.length with aj|aj
 .exact aj
 .rw [List.drop_eq_nil_of_le aj]at h;cases h
theorem gd{O:Type}{l:List O}{k:Nat}(h:l.drop k=[]):l.length<=k:=by simpa using h
theorem jW{O:Type}{l:List O}{k:Nat}{x:O}{r:List O}(h:l.drop k=x::r):a_ l (k:Int)=some x:=by
 simp[a_,eO h]
theorem gP{O:Type}{l:List O}{k:Nat}:a_ l (k:Int)=l[k]?:=by simp[a_]
theorem sF{O:Type}{l:List O}{i:Int}(aO:0<=i)(h:i<l.length):∃a,a_ l i=some a:=by
 refine⟨l[i.toNat]'(by omega),?_⟩;unfold a_;rw[if_pos aO,List.getElem?_eq_getElem]
theorem oi{O:Type}{l:List O}{i:Int}{a:O}:(b7 l i a).length=l.length:=by simp[b7]
theorem Gi{O:Type}{l:List O}{i j:Int}{a:O}(hi:0<=i)(aH:0<=j):a_ (b7 l i a) j=if i=j then(if i<l.length then some a else none)else a_ l j:=by
 simp only[a_,b7,if_pos aH,List.getElem?_set];by_cases h:i=j
 .subst h;simp only[if_true];by_cases aa:i<l.length
  .have:i.toNat<l.length:=by omega
   simp[aa,this]
  .have:¬i.toNat<l.length:=by omega
   simp[aa,this]
 .have:¬i.toNat=j.toNat:=by omega
  simp[h,this]
theorem nF{x:Int}(h : -9223372036854775808<=x)(aa:x<9223372036854775808):aV x=x:=by
 (try rw[Jy]);rw[IntKind.wrap_i64];omega
theorem dx{n:Nat}(h:n+1<9223372036854775808):aV ((n:Int)+1)=((n+1:Nat):Int):=by
 rw[nF]<;>omega
abbrev fM:Nat:=9223372036854775808
end Go.aS
namespace Go.aS
end Go.aS
namespace Go.aS
open D
def o3(l r b:Int):Bool:=(dW .u32 b l==0)&&((dW .u32 b r != 0)&&(fK .u32 b r != 0))
def sI(l r:Int):Nat->Nat->ay×Bool->Option (ay×Bool)
 |0,_,s=>some s
 |k+1,i,s=>match s.1[i]? with
  |none=>none
  |some b=>if o3 l r b=true then(if s.1.length<1000000 then sI l r k (i+1) (s.1.set i (dW .u32 b r)++[fK .u32 b r],true)else none)else sI l r k (i+1) s
def uy:List (Int×Int)->ay×Bool->Option (ay×Bool)
 |[],s=>some s
 |m::mv,s=>if s.1.length<1000000 then match sI m.1 m.2 s.1.length 0 s with
  |some bk=>uy mv bk
  |none=>none
  else none
def uq(mv:List (Int×Int)):Nat->ay->Option (ay)
 |0,_=>none
 |k+1,L=>match uy mv (L,false)with
  |some s=>if s.2=true then uq mv k s.1 else some s.1
  |none=>none
def uz(n x:Int):Int:=fK .u32 (IntKind.wrap .u32 (jo .u32 1 n-1)) x
def ur(n x:Int):ay:=if(uz n x != 0)=true then[uz n x]else[]
def dY:dE (Int×Int):=λm=>[.lit (.int .u32 m.1),.lit (.int .u32 m.2)]
def yh:List (List D)->Option (List (Int×Int))
 |[]=>some []
 |[.lit (.int .u32 l),.lit (.int .u32 r)]::ms=>(yh ms).map ((l,r)::·)
 |_=>none
theorem S9:∀{ms:List (List D)}{mv:List (Int×Int)},yh ms=some mv->ms=mv.map dY
 |[],mv,h=>by simp only[yh,aE]at h;subst h;rfl
 |m::ms,mv,h=>by
  unfold yh at h
  split at h
  .rename_i he;cases he
  .rename_i l r amA he;simp only[aM]at he;obtain⟨rfl,rfl⟩:=he;simp only[Option.map_eq_some_iff]at h;obtain⟨amB,I,rfl⟩:=h;rw[S9 I];rfl
  .cases h
theorem R_:∀(mv:List (Int×Int)),yh (mv.map dY)=some mv
 |[]=>rfl
 |m::mv=>by simp[yh,dY,R_ mv]
def zN(ord:Nat):List D->Ask
 |[.lit (.int .i64 n),.sl ms,.lit (.int .u32 x)]=>match yh ms with
  |some mv=>if 0<=n/\mv.length<1000000 then match uq mv 40 (ur n x)with
    |some L=>.call ord [.sl (L.map bM)] λr=>match r with
     |(.sl es,[])=>.ret (some (.sl es,[]))
     |_=>.ret none
    |none=>.ret none
   else .ret none
  |none=>.ret none
 |_=>.ret none
theorem YF{call:Nat->List D->Option (D×List D)}{ord:Nat}{az:List D}{r:D}{outs:List D}(h:fz call (zN ord az)=some (r,outs)):∃n ms x L es,az=[.lit (.int .i64 n),.sl (ms.map dY),.lit (.int .u32 x)]/\0<=n/\ms.length<1000000/\uq ms 40 (ur n x)=some L/\call ord [.sl (L.map bM)]=some (.sl es,[])/\r=.sl es/\outs=[]:=by
 unfold zN at h
 split at h
 .rename_i n ms x
  split at h
  .rename_i mv N4
   split at h
   .rename_i ao
    split at h
    .rename_i L cq;simp only[fz]at h
     split at h
     .rename_i q au
      split at h
      .rename_i es;simp only[fz,aE,aA]at h;exact⟨n,mv,x,L,es,by rw[S9 N4],ao.1,ao.2,cq,au,h.1.symm,h.2.symm⟩
      .simp [fz]at h
     .cases h
    .simp [fz]at h
   .simp [fz]at h
  .simp [fz]at h
 .simp [fz]at h
theorem ZG{O:Type}{E:Env}{F aX bN:Fr}{e:dE O}{l m:List O}{x y:Operand}{t et k c:Nat}{dst:Option Nat}{z:D}(al:eD E.P t=some et)(aG:fC E.P et=some z)(iF:z.cells.length=k)(U:c9 E F x=some (.own (l.map e),aX))(aw:jO E aX y=some (m.map e,bN))(ae:aY E.P et=k)(af:Nat.blt 0 k=true)(ag:j5 E.P et=c)(pB:Nat.blt 0 c=true)(aj:∀x,(e x).length=k)
  (hl:(l.length+m.length)*c<=140737488355328):rC E F t dst x y=some (fin bN dst (.own ((l++m).map e))):=by
 have af:0<k:=rp af;have pB:0<c:=rp pB;have aa:l.length+m.length<=9223372036854775807:=Nat.le_trans (Nat.le_mul_of_pos_right _ pB) (Nat.le_trans hl (by decide));simp only[rC,al,aG,U,aw,ag,ae,iF,List.length_map,List.map_append];have aB:∀(l:List O),((l.map e).all λc=>c.length==k)=true:=by intro l;simp[List.all_eq_true,aj]
 rw[if_pos ⟨hl,aa,trivial,af,aB l,aB m⟩]
theorem ad1{E:Env}{f g:Nat}{V:List Nat}{call:Nat->List D->Option (D×List D)}{F aX:Fr}{o:Oper}{args:Array Operand}{tys:Array Nat}{r:D}(an:o.op=.call { callee:=.value (.func g),args:=args,argTypes:=tys })(ad:kn E call F g (.func g) (gF args.toList 0)=some (r,aX))(he:E.eager f (o.dst.getD 0)=false):cV E f V call F o=some (fin aX o.dst r):=by
 unfold cV;simp only[an,aZ,List.length_nil,ad,Option.bind_some,he,lS,Bool.false_eq_true,if_false,Option.map_some]
theorem bG.sub{E:Env}{n:Nat}{fi:Code}{F:Fr}{Q:dU->Fr->Prop}{s r:Nat}{es:List (List D)}{k:Nat}{pt V:List Nat}(aik:pt.Nodup)(dZ:V.Nodup)(pC:aS.get F r=.alias s [])(u7:aS.get F s=.own es)(aj:∀e∈es,e.length=k)(hr:r<n)
  (iV:aS.get (norm pt F) s=.own es) (au:(aS.get (norm pt F) r).quiet=true) (h:bG E n fi (norm V (cf (norm pt F) r (.sub s [] 0 es.length))) Q):bG E n fi F Q:=by
 refine bG.less (λR M B w0 a w af=>?_) h;obtain⟨b1,bQ,i1,aT⟩:=af;have ID:=xN (t:=bg bQ r) (d:=.alias s []) (by rw[<-i1.get];exact pC) rfl (by simp) (by simp);have IG:a.tmps[r]?=some (bg bQ r).val:=i1.FB hr pC (by simp);have U:(bg bQ s).node=true/\(bg bQ r).val=(bg bQ s).val:=by
  have:=i1.iJ r;rw[ID]at this;simp only[fg,fm,aJ,T.bw,aE]at this;obtain⟨q,rfl,I,aa⟩:=this;exact⟨I,aa⟩
 obtain⟨cr,i2,cK⟩:=C9 i1 aik;have nf:(bg bQ s).val=(bg cr s).val:=by
  have I:=i1.bP s _ (p5 (ps:=[]) rfl U.1);have yT:(bg cr s).erase=.own es:=by rw[<-i2.get];exact iV
  have qL:(bg cr s).node=true:=by
   rcases om (i2.jq s) yT with⟨_,_,_,_,_,h,_⟩|⟨h,_⟩<;>rw[h]<;>rfl
  have aa:=i2.bP s _ (p5 (ps:=[]) rfl qL)
  split at I
  .rename_i ae;rw[if_pos ae,I]at aa;simpa using aa
  .rename_i ae;rw[if_neg ae]at aa;rw[<-I,<-aa]
 have yT:(bg cr s).erase=.own es:=by rw[<-i2.get];exact iV
 have qL:(bg cr s).node=true:=by
  rcases om (i2.jq s) yT with⟨_,_,_,_,_,h,_⟩|⟨h,_⟩<;>rw[h]<;>rfl
 have vh:fg b1 cr (.leaf (.sub s [] 0 es.length) (bg bQ r).val):=by
  refine⟨bg cr s,rfl,qL,?_⟩;rw[U.2,nf];rcases om (i2.jq s) yT with⟨g,cap,el,sp,ts,he,fk⟩|⟨he,fk⟩
  .have ng:T.wf b1 (.own g cap el sp ts):=by have:=i2.iJ s;rw[he]at this;exact this
   have hl:ts.length=es.length:=by rw[<-fk];simp
   rw[he];refine⟨some ⟨g,0,none⟩,es.length,cap,k,es,some ⟨g,0,none⟩,by simp[T.val,hl],.inl (by rw[<-he];exact yT),rfl,aj,by omega,by rw[<-hl];exact ng.2.1.1,by simp[T.val,hl],.inl (by simp[Addr.add_plain])⟩
  .subst fk;rw[he];exact⟨none,0,0,k,[],none,rfl,.inl rfl,rfl,by simp,by simp,by simp,rfl,.inl rfl⟩
 obtain⟨jg,i3,cS⟩:=i2.tell hr au IG (by simp[T.tidy]) vh;exact cJ.norm ⟨b1,jg,i3,aT.weaken λg ak=>cK g (cS g ak)⟩ dZ
end Go.aS
namespace Go.aS
open D
abbrev ik:=ByteArray×ByteArray×ByteArray
def wc(mJ:Nat)(l p q:Int)(k:List ik->Ask):List (List D)->List ik->Ask
 |[],acc=>k acc
 |[.lit (.int .i64 id),.sl vs]::rs,acc=>.call mJ [.agg [.lit (.int .i64 id),.sl vs],.lit (.int .u32 l)] λx=>match x with
  |(.lit (.string s1),[])=>.call mJ [.agg [.lit (.int .i64 id),.sl vs],.lit (.int .u32 p)] λx=>match x with
   |(.lit (.string s2),[])=>.call mJ [.agg [.lit (.int .i64 id),.sl vs],.lit (.int .u32 q)] λx=>match x with
    |(.lit (.string d_),[])=>if s2.size+d_.size<=9223372036854775807 then wc mJ l p q k rs (acc++[(s1,s2,d_)])else .ret none
    |_=>.ret none
   |_=>.ret none
  |_=>.ret none
 |_::_,_=>.ret none
def lX(L:List ik)(s:ByteArray):List ik:=L.filter λy=>y.1==s
def sf(L:List ik):Bool:=L.all λx=>(hj ((lX L x.1).map λy=>y.2.1)).length*(hj ((lX L x.1).map λy=>y.2.2)).length==(hj ((lX L x.1).map λy=>y.2.1++y.2.2)).length
def vF(b:Bool)(e:Int):D:=.bt [.lit (.bool b),.lit (.int .i64 e)]
def qf(l r:Int):Int:=fK .u32 r l
def qk(n l r:Int):Int:=fK .u32 (IntKind.wrap .u32 (jo .u32 1 n-1)) (eZ .u32 l r)
def sB(Ju mJ:Nat):List D -> Ask
  |[.agg [.lit (.string mc),.sl c0,.sl rows],.agg [.lit (.int .u32 l),.lit (.int .u32 r)]]=>
    .call Ju [.agg [.lit (.string mc),.sl c0,.sl rows]] λx=>match x with
      | (.lit (.int .i64 e), []) => if e = 0 then (if ft .u32 (eZ .u32 l r) (c0.length : Int) = 0 then (if rows.length <= 1000000 then wc mJ l (qf l r) (qk c0.length l r) (λL => .ret (some (vF (sf L) 0, []))) rows [] else .ret none)
          else .ret (some (vF false 1,[])))else .ret (some (vF false e,[]))
      |_=>.ret none
  |_=>.ret none
def Dn(call:Nat->List D->Option (D×List D))(mJ:Nat)(l p q:Int):List (List D)->List ik->Prop
 |[],L=>L=[]
 |r::rs,L=>∃s1 s2 d_ L' id vs,r=[.lit (.int .i64 id),.sl vs]/\L=(s1,s2,d_)::L'/\call mJ [.agg r,.lit (.int .u32 l)]=some (.lit (.string s1),[])/\call mJ [.agg r,.lit (.int .u32 p)]=some (.lit (.string s2),[])/\call mJ [.agg r,.lit (.int .u32 q)]=some (.lit (.string d_),[])/\s2.size+d_.size<=9223372036854775807/\Dn call mJ l p q rs L'
theorem Ri{call:Nat->List D->Option (D×List D)}{mJ:Nat}{l p q:Int}{k:List ik->Ask}{x:D×List D}:∀{rs:List (List D)}{acc:List ik},fz call (wc mJ l p q k rs acc)=some x->∃L,Dn call mJ l p q rs L/\fz call (k (acc++L))=some x
 |[],acc,h=>⟨[],rfl,by rw[List.append_nil];exact h⟩
 |r::rs,acc,h=>by
  by_cases hr:∃id vs,r=[.lit (.int .i64 id),.sl vs]
  .obtain ⟨id,vs,rfl⟩:=hr;simp only[wc,fz]at h
   split at h
   case h_2=>cases h
   rename_i ai aT
   split at h
   case h_2=>simp[fz]at h
   rename_i s1;simp only[fz]at h
   split at h
   case h_2=>cases h
   rename_i ax a5
   split at h
   case h_2=>simp[fz]at h
   rename_i s2;simp only[fz]at h
   split at h
   case h_2=>cases h
   rename_i bb ez
   split at h
   case h_2=>simp[fz]at h
   rename_i d_
   split at h
   case isFalse=>simp[fz]at h
   rename_i fO;obtain⟨L,I,aa⟩:=Ri h;exact⟨(s1,s2,d_)::L,⟨s1,s2,d_,L,id,vs,rfl,rfl,aT,a5,ez,fO,I⟩,by rw[List.append_assoc]at aa;exact aa⟩
  .exfalso;unfold wc at h
   split at h
   .rename_i he;cases he
   .rename_i he;simp only[aM]at he;exact hr ⟨_,_,he.1⟩
   .simp [fz]at h
theorem YP{call:Nat->List D->Option (D×List D)}{Ju mJ:Nat}{az:List D}{r:D}{outs:List D}(h:fz call (sB Ju mJ az)=some (r,outs)):
  ∃mc c0 rows l q e,az=[.agg [.lit (.string mc),.sl c0,.sl rows],.agg [.lit (.int .u32 l),.lit (.int .u32 q)]]/\call Ju [.agg [.lit (.string mc),.sl c0,.sl rows]]=some (.lit (.int .i64 e),[])/\outs=[] /\
   ((e≠0/\r=vF false e)∨(e=0/\ft .u32 (eZ .u32 l q) (c0.length:Int)≠0/\r=vF false 1) ∨
    (e=0/\ft .u32 (eZ .u32 l q) (c0.length:Int)=0/\rows.length<=1000000/\∃L,Dn call mJ l (qf l q) (qk c0.length l q) rows L/\r=vF (sf L) 0)):=by
 unfold sB at h
 split at h
 case h_2=>simp[fz]at h
 rename_i mc c0 rows l q;simp only[fz]at h
 split at h
 case h_2=>cases h
 rename_i x U
 split at h
 case h_2=>simp[fz]at h
 rename_i e;refine⟨mc,c0,rows,l,q,e,rfl,U,?_⟩;by_cases he:e=0
 .rw [if_pos he]at h;by_cases ae:ft .u32 (eZ .u32 l q) (c0.length:Int)=0
  .rw [if_pos ae]at h;by_cases ao:rows.length<=1000000
   .rw [if_pos ao]at h;obtain⟨L,I,aa⟩:=Ri h;simp only[fz,List.nil_append,aE,aA]at aa;exact⟨aa.2.symm,.inr (.inr ⟨he,ae,ao,L,I,aa.1.symm⟩)⟩
   .rw [if_neg ao]at h;simp[fz]at h
  .rw [if_neg ae]at h;simp only[fz,aE,aA]at h;exact⟨h.2.symm,.inr (.inl ⟨he,ae,h.1.symm⟩)⟩
 .rw [if_neg he]at h;simp only[fz,aE,aA]at h;exact⟨h.2.symm,.inl ⟨he,h.1.symm⟩⟩
end Go.aS
