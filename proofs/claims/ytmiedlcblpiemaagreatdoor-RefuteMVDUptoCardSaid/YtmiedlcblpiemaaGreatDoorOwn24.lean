/- An interpreter of function bodies, sound. No conditions. -/
import Derived.Laws.BitsLemmas
import Derived.Test.YtmiedlcblpiemaaGreatDoorOwn17
import Derived.Test.YtmiedlcblpiemaaGreatDoorOwn19
import Derived.Test.YtmiedlcblpiemaaGreatDoorOwn20
set_option linter.all false
open Prod.mk renaming injEq->zA
open List.cons renaming injEq->zB
namespace Go.Own
theorem Aab{O:Type}{l:List O}{k:Nat}{x:O}{r:List O}(h:l.drop k=x::r):l[k]?=some x:=by
 have:(l.drop k)[0]?=some x:=by rw[h];rfl
 simpa using this
theorem Aa8{O:Type}{l:List O}{k:Nat}{x:O}{r:List O}(h:l.drop k=x::r):l.drop (k+1)=r:=by
 have:(l.drop k).drop 1=r:=by rw[h];rfl
 rw[List.drop_drop]at this;exact this
theorem Aaq{O:Type}{l:List O}{k:Nat}{x:O}{r:List O}(h:l.drop k=x::r):k<l.length:=by
 rcases Nat.lt_or_ge k l.length with hk|hk
 .exact hk
 .rw [List.drop_eq_nil_of_le hk]at h;cases h
theorem Aap{O:Type}{l:List O}{k:Nat}(h:l.drop k=[]):l.length<=k:=by simpa using h
theorem Ab9{O:Type}{l:List O}{k:Nat}{x:O}{r:List O}(h:l.drop k=x::r):lget l (k:Int)=some x:=by
 simp[lget,Aab h]
theorem Ac6{O:Type}{l:List O}{k:Nat}:lget l (k:Int)=l[k]?:=by simp[lget]
theorem Agu{O:Type}{l:List O}{i:Int}(h0:0<=i)(h:i<l.length):∃a,lget l i=some a:=by
 refine⟨l[i.toNat]'(by omega),?_⟩;unfold lget;rw[if_pos h0,List.getElem?_eq_getElem]
theorem Ac9{O:Type}{l:List O}{i:Int}{a:O}:(lset l i a).length=l.length:=by simp[lset]
theorem Am6{O:Type}{l:List O}{i j:Int}{a:O}(hi:0<=i)(hj:0<=j):lget (lset l i a) j=if i=j then(if i<l.length then some a else none)else lget l j:=by
 simp only[lget,lset,if_pos hj,List.getElem?_set];by_cases h:i=j
 .subst h;simp only[if_true];by_cases h2:i<l.length
  .have:i.toNat<l.length:=by omega
   simp[h2,this]
  .have:¬i.toNat<l.length:=by omega
   simp[h2,this]
 .have:¬i.toNat=j.toNat:=by omega
  simp[h,this]
theorem Af4{x:Int}(h : -9223372036854775808<=x)(h2:x<9223372036854775808):IntKind.wrap .i64 x=x:=by
 rw[IntKind.wrap_i64];omega
theorem Aa5{n:Nat}(h:n+1<9223372036854775808):IntKind.wrap .i64 ((n:Int)+1)=((n+1:Nat):Int):=by
 rw[Af4]<;>omega
abbrev Big:Nat:=9223372036854775808
end Go.Own
namespace Go.Own
end Go.Own
namespace Go.Own
open D
def splI(l r b:Int):Bool:=(bAnd .u32 b l==0)&&((bAnd .u32 b r != 0)&&(Aae .u32 b r != 0))
def Ah7(l r:Int):Nat->Nat->List Int×Bool->Option (List Int×Bool)
 |0,_,s=>some s
 |k+1,i,s=>match s.1[i]? with
  |none=>none
  |some b=>if splI l r b=true then(if s.1.length<1000000 then Ah7 l r k (i+1) (s.1.set i (bAnd .u32 b r)++[Aae .u32 b r],true)else none)else Ah7 l r k (i+1) s
def Aki:List (Int×Int)->List Int×Bool->Option (List Int×Bool)
 |[],s=>some s
 |m::mv,s=>if s.1.length<1000000 then match Ah7 m.1 m.2 s.1.length 0 s with
  |some s'=>Aki mv s'
  |none=>none
  else none
def Aii(mv:List (Int×Int)):Nat->List Int->Option (List Int)
 |0,_=>none
 |k+1,L=>match Aki mv (L,false)with
  |some s=>if s.2=true then Aii mv k s.1 else some s.1
  |none=>none
def Akj(n x:Int):Int:=Aae .u32 (IntKind.wrap .u32 (shlw .u32 1 n-1)) x
def Aio(n x:Int):List Int:=if(Akj n x != 0)=true then[Akj n x]else[]
def eMv:Enc (Int×Int):=fun m=>[.lit (.int .u32 m.1),.lit (.int .u32 m.2)]
def Anx:List (List D)->Option (List (Int×Int))
 |[]=>some []
 |[.lit (.int .u32 l),.lit (.int .u32 r)]::ms=>(Anx ms).map ((l,r)::·)
 |_=>none
theorem Aza:∀{ms:List (List D)}{mv:List (Int×Int)},Anx ms=some mv->ms=mv.map eMv
 |[],mv,h=>by simp only[Anx,zJ]at h;subst h;rfl
 |m::ms,mv,h=>by
  unfold Anx at h
  split at h
  .rename_i he;cases he
  .rename_i l r ms' he;simp only[zB]at he;obtain⟨rfl,rfl⟩:=he;simp only[Option.map_eq_some_iff]at h;obtain⟨mv',h1,rfl⟩:=h;rw[Aza h1];rfl
  .cases h
theorem Awp:∀(mv:List (Int×Int)),Anx (mv.map eMv)=some mv
 |[]=>rfl
 |m::mv=>by simp[Anx,eMv,Awp mv]
def Ags(ord:Nat):List D->Ask
 |[.lit (.int .i64 n),.sl ms,.lit (.int .u32 x)]=>match Anx ms with
  |some mv=>if 0<=n/\mv.length<1000000 then match Aii mv 40 (Aio n x)with
    |some L=>.call ord [.sl (L.map (eI .u32))] fun r=>match r with
     |(.sl es,[])=>.ret (some (.sl es,[]))
     |_=>.ret none
    |none=>.ret none
   else .ret none
  |none=>.ret none
 |_=>.ret none
theorem Axz{call:Nat->List D->Option (D×List D)}{ord:Nat}{ds:List D}{r:D}{outs:List D}(h:runAsk call (Ags ord ds)=some (r,outs)):∃n ms x L es,ds=[.lit (.int .i64 n),.sl (ms.map eMv),.lit (.int .u32 x)]/\0<=n/\ms.length<1000000/\Aii ms 40 (Aio n x)=some L/\call ord [.sl (L.map (eI .u32))]=some (.sl es,[])/\r=.sl es/\outs=[]:=by
 unfold Ags at h
 split at h
 .rename_i n ms x
  split at h
  .rename_i mv hmv
   split at h
   .rename_i hn
    split at h
    .rename_i L hL;simp only[runAsk]at h
     split at h
     .rename_i q hq
      split at h
      .rename_i es;simp only[runAsk,zJ,zA]at h;exact⟨n,mv,x,L,es,by rw[Aza hmv],hn.1,hn.2,hL,hq,h.1.symm,h.2.symm⟩
      .simp [runAsk]at h
     .cases h
    .simp [runAsk]at h
   .simp [runAsk]at h
  .simp [runAsk]at h
 .simp [runAsk]at h
theorem Bd5{O:Type}{E:Env}{F F1 F2:Fr}{e:Enc O}{l m:List O}{x y:Operand}{t et k c:Nat}{dst:Option Nat}{z:D}(ht:sliceT E.P t=some et)(hz:zeroT E.P et=some z)(hzl:z.cells.length=k)(hx:takeOp E F x=some (.own (l.map e),F1))(hy:newElems E F1 y=some (m.map e,F2))(hs:sizeT E.P et=k)(hp:Nat.blt 0 k=true)(hb:bytesT E.P et=c)(hbp:Nat.blt 0 c=true)(hk:∀x,(e x).length=k)
  (hl:(l.length+m.length)*c<=140737488355328):appendC E F t dst x y=some (fin F2 dst (.own ((l++m).map e))):=by
 have hp:0<k:=Ag3 hp;have hbp:0<c:=Ag3 hbp;have h2:l.length+m.length<=9223372036854775807:=Nat.le_trans (Nat.le_mul_of_pos_right _ hbp) (Nat.le_trans hl (by decide));simp only[appendC,ht,hz,hx,hy,hb,hs,hzl,List.length_map,List.map_append];have h3:∀(l:List O),((l.map e).all fun c=>c.length==k)=true:=by intro l;simp[List.all_eq_true,hk]
 rw[if_pos ⟨hl,h2,trivial,hp,h3 l,h3 m⟩]
theorem Blf{E:Env}{f g:Nat}{V:List Nat}{call:Nat->List D->Option (D×List D)}{F F1:Fr}{o:Oper}{args:Array Operand}{tys:Array Nat}{r:D}(ho:o.op=.call { callee:=.value (.func g),args:=args,argTypes:=tys })(hc:callC E call F g (.func g) (argsOf args.toList 0)=some (r,F1))(he:E.eager f (o.dst.getD 0)=false):opC E f V call F o=some (fin F1 o.dst r):=by
 unfold opC;simp only[ho,opd,List.length_nil,hc,Option.bind_some,he,coldD,Bool.false_eq_true,if_false,Option.map_some]
theorem ToM.sub{E:Env}{n:Nat}{cd:Code}{F:Fr}{Q:Ex->Fr->Prop}{s r:Nat}{es:List (List D)}{k:Nat}{V1 V:List Nat}(hV1:V1.Nodup)(hV:V.Nodup)(hgr:Own.get F r=.alias s [])(hgs:Own.get F s=.own es)(hk:∀e∈es,e.length=k)(hr:r<n)
  (hs1:Own.get (norm V1 F) s=.own es) (hq:(Own.get (norm V1 F) r).quiet=true) (h:ToM E n cd (norm V (put0 (norm V1 F) r (.sub s [] 0 es.length))) Q):ToM E n cd F Q:=by
 refine ToM.less (fun R M B w0 a w hp=>?_) h;obtain⟨M1,G1,i1,e1⟩:=hp;have htr:=Adw (t:=getT G1 r) (d:=.alias s []) (by rw[<-i1.get];exact hgr) rfl (by simp) (by simp);have hvr:a.tmps[r]?=some (getT G1 r).val:=i1.slot_lit hr hgr (by simp);have hx:(getT G1 s).node=true/\(getT G1 r).val=(getT G1 s).val:=by
  have:=i1.okG r;rw[htr]at this;simp only[Aat,LOK,L1,T.getP,zJ]at this;obtain⟨q,rfl,h1,h2⟩:=this;exact⟨h1,h2⟩
 obtain⟨G2,i2,b2⟩:=An6 i1 hV1;have hvs:(getT G1 s).val=(getT G2 s).val:=by
  have h1:=i1.vals s _ (Abw (ps:=[]) rfl hx.1);have hers:(getT G2 s).erase=.own es:=by rw[<-i2.get];exact hs1
  have hn2:(getT G2 s).node=true:=by
   rcases Acp (i2.tidyG s) hers with⟨_,_,_,_,_,h,_⟩|⟨h,_⟩<;>rw[h]<;>rfl
  have h2:=i2.vals s _ (Abw (ps:=[]) rfl hn2)
  split at h1
  .rename_i hs;rw[if_pos hs,h1]at h2;simpa using h2
  .rename_i hs;rw[if_neg hs]at h2;rw[<-h1,<-h2]
 have hers:(getT G2 s).erase=.own es:=by rw[<-i2.get];exact hs1
 have hn2:(getT G2 s).node=true:=by
  rcases Acp (i2.tidyG s) hers with⟨_,_,_,_,_,h,_⟩|⟨h,_⟩<;>rw[h]<;>rfl
 have hso:Aat M1 G2 (.leaf (.sub s [] 0 es.length) (getT G1 r).val):=by
  refine⟨getT G2 s,rfl,hn2,?_⟩;rw[hx.2,hvs];rcases Acp (i2.tidyG s) hers with⟨g,cap,el,sp,ts,he,hes⟩|⟨he,hes⟩
  .have hwf:T.wf M1 (.own g cap el sp ts):=by have:=i2.okG s;rw[he]at this;exact this
   have hl:ts.length=es.length:=by rw[<-hes];simp
   rw[he];refine⟨some ⟨g,0,none⟩,es.length,cap,k,es,some ⟨g,0,none⟩,by simp[T.val,hl],.inl (by rw[<-he];exact hers),rfl,hk,by omega,by rw[<-hl];exact hwf.2.1.1,by simp[T.val,hl],.inl (by simp[Addr.add_plain])⟩
  .subst hes;rw[he];exact⟨none,0,0,k,[],none,rfl,.inl rfl,rfl,by simp,by simp,by simp,rfl,.inl rfl⟩
 obtain⟨G3,i3,b3⟩:=i2.tell hr hq hvr (by simp[T.tidy]) hso;exact Post.norm ⟨M1,G3,i3,e1.weaken fun g hg=>b2 g (b3 g hg)⟩ hV
end Go.Own
namespace Go.Own
open D
abbrev Key3:=ByteArray×ByteArray×ByteArray
def Ahr(kf:Nat)(l p q:Int)(k:List Key3->Ask):List (List D)->List Key3->Ask
 |[],acc=>k acc
 |[.lit (.int .i64 id),.sl vs]::rs,acc=>.call kf [.agg [.lit (.int .i64 id),.sl vs],.lit (.int .u32 l)] fun x=>match x with
  |(.lit (.string s1),[])=>.call kf [.agg [.lit (.int .i64 id),.sl vs],.lit (.int .u32 p)] fun x=>match x with
   |(.lit (.string s2),[])=>.call kf [.agg [.lit (.int .i64 id),.sl vs],.lit (.int .u32 q)] fun x=>match x with
    |(.lit (.string s3),[])=>if s2.size+s3.size<=9223372036854775807 then Ahr kf l p q k rs (acc++[(s1,s2,s3)])else .ret none
    |_=>.ret none
   |_=>.ret none
  |_=>.ret none
 |_::_,_=>.ret none
def grpH(L:List Key3)(s:ByteArray):List Key3:=L.filter fun y=>y.1==s
def okH(L:List Key3):Bool:=L.all fun x=>(dd ((grpH L x.1).map fun y=>y.2.1)).length*(dd ((grpH L x.1).map fun y=>y.2.2)).length==(dd ((grpH L x.1).map fun y=>y.2.1++y.2.2)).length
def resH(b:Bool)(e:Int):D:=.tup [.lit (.bool b),.lit (.int .i64 e)]
def Afq(l r:Int):Int:=Aae .u32 r l
def Ahi(n l r:Int):Int:=Aae .u32 (IntKind.wrap .u32 (shlw .u32 1 n-1)) (bOr .u32 l r)
def Ae6(vf kf:Nat):List D -> Ask
  |[.agg [.lit (.string nm),.sl ats,.sl rows],.agg [.lit (.int .u32 l),.lit (.int .u32 r)]]=>
    .call vf [.agg [.lit (.string nm),.sl ats,.sl rows]] fun x=>match x with
      | (.lit (.int .i64 e), []) => if e = 0 then (if shrw .u32 (bOr .u32 l r) (ats.length : Int) = 0 then (if rows.length <= 1000000 then Ahr kf l (Afq l r) (Ahi ats.length l r) (fun L => .ret (some (resH (okH L) 0, []))) rows [] else .ret none)
          else .ret (some (resH false 1,[])))else .ret (some (resH false e,[]))
      |_=>.ret none
  |_=>.ret none
def At8(call:Nat->List D->Option (D×List D))(kf:Nat)(l p q:Int):List (List D)->List Key3->Prop
 |[],L=>L=[]
 |r::rs,L=>∃s1 s2 s3 L' id vs,r=[.lit (.int .i64 id),.sl vs]/\L=(s1,s2,s3)::L'/\call kf [.agg r,.lit (.int .u32 l)]=some (.lit (.string s1),[])/\call kf [.agg r,.lit (.int .u32 p)]=some (.lit (.string s2),[])/\call kf [.agg r,.lit (.int .u32 q)]=some (.lit (.string s3),[])/\s2.size+s3.size<=9223372036854775807/\At8 call kf l p q rs L'
theorem Atd{call:Nat->List D->Option (D×List D)}{kf:Nat}{l p q:Int}{k:List Key3->Ask}{x:D×List D}:∀{rs:List (List D)}{acc:List Key3},runAsk call (Ahr kf l p q k rs acc)=some x->∃L,At8 call kf l p q rs L/\runAsk call (k (acc++L))=some x
 |[],acc,h=>⟨[],rfl,by rw[List.append_nil];exact h⟩
 |r::rs,acc,h=>by
  by_cases hr:∃id vs,r=[.lit (.int .i64 id),.sl vs]
  .obtain ⟨id,vs,rfl⟩:=hr;simp only[Ahr,runAsk]at h
   split at h
   case h_2=>cases h
   rename_i x1 e1
   split at h
   case h_2=>simp[runAsk]at h
   rename_i s1;simp only[runAsk]at h
   split at h
   case h_2=>cases h
   rename_i x2 e2
   split at h
   case h_2=>simp[runAsk]at h
   rename_i s2;simp only[runAsk]at h
   split at h
   case h_2=>cases h
   rename_i x3 e3
   split at h
   case h_2=>simp[runAsk]at h
   rename_i s3
   split at h
   case isFalse=>simp[runAsk]at h
   rename_i hsz;obtain⟨L,h1,h2⟩:=Atd h;exact⟨(s1,s2,s3)::L,⟨s1,s2,s3,L,id,vs,rfl,rfl,e1,e2,e3,hsz,h1⟩,by rw[List.append_assoc]at h2;exact h2⟩
  .exfalso;unfold Ahr at h
   split at h
   .rename_i he;cases he
   .rename_i he;simp only[zB]at he;exact hr ⟨_,_,he.1⟩
   .simp [runAsk]at h
theorem Azu{call:Nat->List D->Option (D×List D)}{vf kf:Nat}{ds:List D}{r:D}{outs:List D}(h:runAsk call (Ae6 vf kf ds)=some (r,outs)):
  ∃nm ats rows l q e,ds=[.agg [.lit (.string nm),.sl ats,.sl rows],.agg [.lit (.int .u32 l),.lit (.int .u32 q)]]/\call vf [.agg [.lit (.string nm),.sl ats,.sl rows]]=some (.lit (.int .i64 e),[])/\outs=[] /\
   ((e≠0/\r=resH false e)∨(e=0/\shrw .u32 (bOr .u32 l q) (ats.length:Int)≠0/\r=resH false 1) ∨
    (e=0/\shrw .u32 (bOr .u32 l q) (ats.length:Int)=0/\rows.length<=1000000/\∃L,At8 call kf l (Afq l q) (Ahi ats.length l q) rows L/\r=resH (okH L) 0)):=by
 unfold Ae6 at h
 split at h
 case h_2=>simp[runAsk]at h
 rename_i nm ats rows l q;simp only[runAsk]at h
 split at h
 case h_2=>cases h
 rename_i x hx
 split at h
 case h_2=>simp[runAsk]at h
 rename_i e;refine⟨nm,ats,rows,l,q,e,rfl,hx,?_⟩;by_cases he:e=0
 .rw [if_pos he]at h;by_cases hs:shrw .u32 (bOr .u32 l q) (ats.length:Int)=0
  .rw [if_pos hs]at h;by_cases hn:rows.length<=1000000
   .rw [if_pos hn]at h;obtain⟨L,h1,h2⟩:=Atd h;simp only[runAsk,List.nil_append,zJ,zA]at h2;exact⟨h2.2.symm,.inr (.inr ⟨he,hs,hn,L,h1,h2.1.symm⟩)⟩
   .rw [if_neg hn]at h;simp[runAsk]at h
  .rw [if_neg hs]at h;simp only[runAsk,zJ,zA]at h;exact⟨h.2.symm,.inr (.inl ⟨he,hs,h.1.symm⟩)⟩
 .rw [if_neg he]at h;simp only[runAsk,zJ,zA]at h;exact⟨h.2.symm,.inl ⟨he,h.1.symm⟩⟩
end Go.Own
