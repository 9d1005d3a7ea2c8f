/- What the functions answer. No conditions. -/
import Derived.Test.YtcbhcnkfefbddaaGreatDoorTopMultivaluedLaw8
import Derived.Test.YtcbhcnkfefbddaaGreatDoorTopMultivaluedLaw9
set_option linter.all false
open List renaming getElem?_eq_getElem->aA,length_cons->aQ,mem_of_getElem?->a6,length_map->ba,cons_append->bo,getElem?_map->bB,length_append->b5,getElem?_eq_none->cc,length_take->cu,range->cx,mem_cons->cD,filterMap_cons->cA,take_add_one->c_,getElem_mem->dn,replicate->du,filter_append->eb,flatMap_cons->fx,length_filterMap_le->gj,forall_mem_cons->gD,flatMap_append->hb,mem_filterMap->hF,append_assoc->ie,take_length->hq,nil_append->iZ,mem_append->kf
open List.cons renaming injEq->aM
open Int renaming toNat_natCast->bL
open Nat renaming lt_of_le_of_lt->b3,pow_le_pow_right->cz,lt_of_lt_of_le->cT,testBit_two_pow_sub_one->dR,mod_eq_of_lt->fB,zero_le->fR,mod_lt->fW,pos_of_ne_zero->hP,le_trans->hQ,or_lt_two_pow->hR,div_le_self->jr
open Bool renaming eq_false_iff->eW,false_ne_true->hc,and_eq_true->ig
open Option renaming map_some->gC
namespace Go.aS
def tv(x:Int):Bool:=decide (97<=x/\x<=122∨65<=x/\x<=90∨x=95)
def AG(x:Int):Bool:=tv x || decide (48<=x/\x<=57)
def Aw:List UInt8:=[110,117,108,108]
def ac8:(⟨#[110,117,108,108]⟩:ByteArray).toList=Aw:=Hc (l:=Aw)
def L3:(⟨#[]⟩:ByteArray).toList=[]:=Hc (l:=[])
def kQ:List UInt8->Bool
 |[]=>false
 |b::r=>decide (r.length<24)&&tv (eN b)&&!decide (b::r=Aw)&&r.all λb=>AG (eN b)
def sN(s:ByteArray):Bool:=kQ s.toList
def abR{J:Bool->Prop}{P:Prop}{x:Int}(h:if AG x=true then P else J false)(hl:¬tv x=true):if x<48 then J false else if 57<x then J false else P:=by
 have e:AG x=decide (48<=x/\x<=57):=by unfold AG;rw[eW.2 hl,Bool.false_or]
 rw[e]at h
 repeat' split
 .rw [if_neg (by rw[decide_eq_true_iff];omega)]at h;exact h
 .rw [if_neg (by rw[decide_eq_true_iff];omega)]at h;exact h
 .rw [if_pos (by rw[decide_eq_true_iff];omega)]at h;exact h
namespace zu
def two{s:ByteArray}{i:Int}{J:Bool->Prop}{x:Int}(h:if tv x=true then cd s i J else if i=0 then J false else if x<48 then J false else if 57<x then J false else cd s i J):bm s i x (tv x) J:=by
 apply cU;exact h
def bp{s:ByteArray}:C s (sN s):=by
  obtain⟨r,I,aa⟩:=bj s (λr=>r=sN s) (by
    unfold sN;rw[zX,ac8,L3];cases ae:s.toList with
    |nil=>simp[kQ]
    |cons b t=>
      rw[if_neg (by simp)]
      split
      · rename_i ao
        have ao:24 <= t.length:=by simp at ao;omega
        simp[kQ];omega
      · rename_i ao
        have ao:t.length<24:=by simp at ao;omega
        have hlen:s.toList.length=t.length+1:=by rw[ae];rfl
        split
        · rename_i aO
          simp[kQ,Aw,aO]
        · rename_i aO
          have body:∀(k:Nat) c,s.toList[k]?=some c -> (if tv (eN c)=true then aJ s ((k+1:Nat):Int) (λr=>r=kQ (b::t))else if(k:Int)=0 then false=kQ (b::t)else if(eN c)<48 then false=kQ (b::t)else if 57<(eN c)then false=kQ (b::t)else aJ s ((k+1:Nat):Int) (λr=>r=kQ (b::t))) -> aJ s k (λr=>r=kQ (b::t)):=by
            intro k c ad h;have aj:=(List.getElem?_eq_some_iff.1 ad).1;apply bE;rw[zX,if_pos (by omega)];refine⟨c,LB ad,?_⟩;have next:aJ s ((k+1:Nat):Int) (λr=>r=kQ (b::t)) -> cd s k λr=>r=kQ (b::t):=λh=>by
              apply fp;rw[dx (by omega)];exact h
            have key:bm s k (eN c) (tv (eN c)) λr=>r=kQ (b::t):=by
              apply two
              split
              · rename_i aU;rw[if_pos aU]at h;exact next h
              · rename_i aU;rw[if_neg aU]at h
                split
                · rename_i aa;rw[if_pos aa]at h;exact h
                · rename_i aa;rw[if_neg aa]at h
                  split
                  · rename_i aB;rw[if_pos aB]at h;exact h
                  · rename_i aB;rw[if_neg aB]at h
                    split
                    · rename_i aW;rw[if_pos aW]at h;exact h
                    · rename_i aW;rw[if_neg aW]at h;exact next h
            have e:∀v,v=tv (eN c) -> bm s k (eN c) v λr=>r=kQ (b::t):=by rintro _ rfl;exact key
            repeat' split
            all_goals apply e
            all_goals unfold tv
            all_goals first
              |(symm;rw[decide_eq_true_iff];omega)
              | (by_cases h : eN c = 95
                 · simp[h]
                 · have:(eN c==95)=false:=by simpa using h
                   rw[this];symm;rw[decide_eq_false_iff_not];omega)
          have ahS:s.toList[0]?=some b:=by rw[ae];rfl
          refine body 0 b ahS ?_
          split
          · rename_i ag
            have rest:=KZ (l:=t) (p:=λb=>AG (eN b)) (L:=λi=>aJ s (i+1) λr=>r=kQ (b::t)) (J:=λr=>r=kQ (b::t)) ?_ ?_ ?_
            · simpa using rest
            · intro h
              apply bE;rw[zX,if_neg (by omega)];exact h
            · intro k c ad aj h
              have aT:((k:Nat):Int)+1=((k+1:Nat):Int):=by omega
              rw[aT];refine body (k+1) c (by rw[ae];simpa using ad) ?_
              split
              · rename_i hl
                rw[if_pos (by unfold AG;rw[hl];rfl)]at h;exact h
              · rename_i hl
                rw[if_neg (by omega)];exact abR (J:=λr=>r=kQ (b::t)) h hl
            · simp[kQ,ag,aO,ao]
          · rename_i ag
            simp[kQ,ag])
  rw[<-I];exact aa
end zu
def qA(x a:ByteArray):Bool:=decide (a=x)
def x6:List ByteArray->List ByteArray->Bool
 |_,[]=>true
 |pre,a::r=>sN a&&!pre.any (qA a)&&x6 (pre++[a]) r
def um(l:List ByteArray):Bool:=x6 [] l
namespace Fh
def bp{l:List ByteArray}{x:ByteArray}(ao:l.length<fM):C l x (tu (qA x) l):=by
 obtain⟨r,I,aa⟩:=bj l x (λr=>r=tu (qA x) l) (by
  refine Kl (l:=l) (p:=qA x) (L:=λi=>aJ l x i _) (J:=λr=>r=tu (qA x) l) ?_ ?_ rfl
  .intro h;apply bE;rw[if_neg (by omega)];exact h
  .intro k a aC aj h;apply bE;rw[if_pos (by omega)];refine⟨a,hG aC,?_⟩;rw[dx (by unfold fM at ao;omega)]
   split
   .rename_i aU;rw[if_pos (by simp[qA,Dh.1 aU])]at h;exact h
   .rename_i aU;rw[if_neg (by simp only[qA,decide_eq_true_eq];rintro rfl;exact aU rfl)]at h;exact h)
 rw[<-I];exact aa
end Fh
def BP.bp{l:List ByteArray}{x:ByteArray}(ao:l.length<fM):BP.C l x (l.any (qA x)):=by
 obtain⟨r,I,aa⟩:=BP.bj l x (λr=>r=l.any (qA x)) ⟨_,Fh.bp ao,by rw[LM]⟩;rw[<-I];exact aa
def aaf{l:List ByteArray}{L:Int -> Prop}{P Q:Prop}(stop:P -> L (l.length:Int))
    (step:∀(k:Nat) a,l[k]?=some a -> k<l.length -> (if sN a=true then(if(l.take k).any (qA a)=true then Q else L ((k+1:Nat):Int))else Q) -> L k) (h:um l=true -> P) (da:um l=false -> Q):L 0:=by
  have:∀(r:List ByteArray)(k:Nat),l.drop k=r -> k <= l.length -> (x6 (l.take k) r=true -> P) -> (x6 (l.take k) r=false -> Q) -> L k:=by
    intro r
    induction r with
    | nil => intro k ah aj h da; have : k = l.length := by have := gd ah; omega
             subst this;exact stop (h rfl)
    |cons a r aN=>
      intro k ah aj h da;have bU:=gl ah;refine step k a (eO ah) bU ?_;have ao:=aN (k+1) (e4 ah) bU;have e:l.take (k+1)=l.take k++[a]:=by rw[c_,eO ah];rfl
      rw[e]at ao;simp only[x6]at h da
      split
      · rename_i I
        split
        · rename_i aa
          exact da (by simp[I,aa])
        · rename_i aa
          have aa:=eW.2 aa;exact ao (λaU=>h (by simp[I,aa,aU])) (λaU=>da (by simp[I,aa,aU]))
      · rename_i I
        have I:=eW.2 I;exact da (by simp[I])
  exact this l 0 rfl (fR _) h da
def hv(v:dy):Bool:=decide (v.Kind=0/\v.h6=0/\v.eX.toList=[]∨v.Kind=1/\v.eX.toList=[]∨v.Kind=2/\v.h6=0/\v.eX.toList.length<=200∨v.Kind=3/\1<=v.h6/\v.eX.toList=[])
def aaz{v:dy}{J:Bool -> Prop}(h:J (hv v)):(if v.Kind=0 then(if v.h6=0 then J (v.eX.toList==(⟨#[]⟩:ByteArray).toList)else J false)else(if v.Kind=1 then J (v.eX.toList==(⟨#[]⟩:ByteArray).toList)else(if v.Kind=2 then(if v.h6=0 then J (decide ((qi v.eX) <= 200))else J false)else(if v.Kind=3 then(if 1 <= v.h6 then J (v.eX.toList==(⟨#[]⟩:ByteArray).toList)else J false)else J false)))):=by
  have e:∀b,b=hv v -> J b:=by rintro _ rfl;exact h
  have gn:(v.eX.toList==(⟨#[]⟩:ByteArray).toList)=decide (v.eX.toList=[]):=by
    rw[L3];by_cases h:v.eX.toList=[]
    · simp[h]
    · simp[h]
  rw[gn,zX]
  repeat' split
  all_goals apply e
  all_goals unfold hv
  all_goals first
    |(rw[decide_eq_decide];omega)
    |(symm;rw[decide_eq_false_iff_not];omega)
    | (rw [decide_eq_decide]; constructor
       · intro h;simp_all
       · intro h;simp_all)
def xC.bp{v:dy}:xC.C v (hv v):=by
 obtain⟨r,I,aa⟩:=xC.bj v (λr=>r=hv v) (aaz (J:=λr=>r=hv v) rfl);rw[<-I];exact aa
def rm(l:List dy):Bool:=l.all hv
def BT.bp{v:dy}:BT.C v (!hv v):=by
 obtain⟨r,I,aa⟩:=BT.bj v (λr=>r=!hv v) ⟨_,xC.bp,rfl⟩;rw[<-I];exact aa
namespace Fk
def bp{l:List dy}(ao:l.length<fM):C l (tu (λv=>!hv v) l):=by
 obtain⟨r,I,aa⟩:=bj l (λr=>r=tu (λv=>!hv v) l) (by
  refine Kl (l:=l) (p:=λv=>!hv v) (L:=λi=>aJ l i _) (J:=λr=>r=tu (λv=>!hv v) l) ?_ ?_ rfl
  .intro h;apply bE;rw[if_neg (by omega)];exact h
  .intro k a aC aj h;apply bE;rw[if_pos (by omega)];refine⟨a,hG aC,_,BT.bp,?_⟩;rw[dx (by unfold fM at ao;omega)]
   exact h)
 rw[<-I];exact aa
end Fk
def BL.bp{l:List dy}(ao:l.length<fM):BL.C l (!rm l):=by
 obtain⟨r,I,aa⟩:=BL.bj l (λr=>r=!rm l) ⟨_,Fk.bp ao,by
  rw[LM];unfold rm;rw[List.any_eq_not_all_not];simp⟩
 rw[<-I];exact aa
def BW.bp{l:List dy}(ao:l.length<fM):BW.C l (rm l):=by
 obtain⟨r,I,aa⟩:=BW.bj l (λr=>r=rm l) ⟨_,BL.bp ao,by
  show(!(!rm l))=_
  rw[Bool.not_not]⟩
 rw[<-I];exact aa
def nL(n:Nat):Int->List h7->Int
 |_,[]=>0
 |last,r::rs=>if r.my<=last then 1 else if r.di.length=n then(if rm r.di=true then nL n r.my rs else 1)else 6
def kP(t:cH):Int:=if sN t.Name=true then(if 16<t.bl.length then 3 else if 1000<t.Rows.length then 3 else if um t.bl=true then nL t.bl.length 0 t.Rows else 1)else 1
def abo{n:Nat}{l:List h7}{L:Int -> Int -> Prop}{J:Int -> Prop}(stop:∀last,J 0 -> L last (l.length:Int))
    (step:∀(k:Nat) r last,l[k]?=some r -> k<l.length -> (if r.my <= last then J 1 else if r.di.length=n then(if rm r.di=true then L r.my ((k+1:Nat):Int)else J 1)else J 6) -> L last k) (h:J (nL n 0 l)):L 0 0:=by
  have:∀(r:List h7)(k:Nat)(last:Int),l.drop k=r -> k <= l.length -> J (nL n last r) -> L last k:=by
    intro r
    induction r with
    | nil => intro k last ah aj h; have : k = l.length := by have := gd ah; omega
             subst this;exact stop _ h
    |cons a r aN=>
      intro k last ah aj h;have bU:=gl ah;refine step k a last (eO ah) bU ?_;simp only[nL]at h
      split
      · rename_i I;rw[if_pos I]at h;exact h
      · rename_i I;rw[if_neg I]at h
        split
        · rename_i aa;rw[if_pos aa]at h
          split
          · rename_i aB;rw[if_pos aB]at h;exact aN (k+1) _ (e4 ah) bU h
          · rename_i aB;rw[if_neg aB]at h;exact h
        · rename_i aa;rw[if_neg aa]at h;exact h
  exact this l 0 0 rfl (fR _) h
namespace xD
def rows{t:cH}{J:Int->Prop}(hr:t.Rows.length<=1000)(aC:t.bl.length<=16)(h:J (nL t.bl.length 0 t.Rows)):bm t 0 0 J:=by
 refine abo (n:=t.bl.length) (l:=t.Rows) (L:=λlast i=>bm t last i J) (J:=J) ?_ ?_ h
 .intro last h;apply cU;rw[if_neg (by omega)];exact h
 .intro k r last hr aj h;apply cU;rw[if_pos (by omega)];refine⟨r,hG hr,?_⟩
  split
  .rename_i I;rw[if_pos I]at h;exact h
  .rename_i I;rw[if_neg I]at h
   split
   .rename_i aa;have aa:r.di.length=t.bl.length:=by omega
    rw[if_pos aa]at h;refine⟨_,BW.bp (by unfold fM;omega),?_⟩;rw[dx (by omega)];exact h
   .rename_i aa;rw[if_neg (by omega)]at h;exact h
def bp{t:cH}:C t (kP t):=by
 obtain⟨r,I,aa⟩:=bj t (λr=>r=kP t) (by
  refine⟨_,zu.bp,?_⟩;unfold kP
  split
  .by_cases I:16<t.bl.length
   .rw [if_pos (by omega),if_pos I]
   .rw [if_neg (by omega),if_neg I];by_cases aa:1000<t.Rows.length
    .rw [if_pos (by omega),if_pos aa]
    .rw [if_neg (by omega),if_neg aa];refine aaf (l:=t.bl) (L:=λi=>aJ t i _) (P:=nL t.bl.length 0 t.Rows=if um t.bl=true then nL t.bl.length 0 t.Rows else 1) (Q:=(1:Int)=if um t.bl=true then nL t.bl.length 0 t.Rows else 1) ?_ ?_ ?_ ?_
     .intro h;apply bE;rw[if_neg (by omega)];exact rows (J:=λr=>r=if um t.bl=true then nL t.bl.length 0 t.Rows else 1) (by omega) (by omega) h
     .intro k a aC aj h;apply bE;rw[if_pos (by omega)];refine⟨a,hG aC,_,zu.bp,?_⟩
      split
      .rename_i I;rw[if_pos I]at h;refine⟨by omega,by omega,_,BP.bp (by rw[cu];unfold fM;omega),?_⟩;rw[bL,Nat.sub_zero,dx (by omega)];exact h
      .rename_i I;rw[if_neg I]at h;exact h
     .intro h;rw[if_pos h]
     .intro h;rw[if_neg (by rw[h];decide)]
  .rfl)
 rw[<-I];exact aa
end xD
namespace sh
def loop{J:ay->Prop}:∀(n:Nat)(acc:ay),n<2^32->acc.length+(fb n).length<=1000->J (acc++(fb n).map λ(i:Nat)=>(i:Int))->aJ n acc J:=by
 intro n
 induction n using Nat.strongRecOn with
 |_ n aN=>
  intro acc ao hl h;apply bE;by_cases aO:n=0
  .subst aO;rw[Zb]at h;rw[if_pos (by omega)];simpa using h
  .rw [if_neg (by omega)];rw[Za aO ao]at hl h;simp only[aQ]at hl;refine⟨by omega,by omega,?_⟩;have aT:IntKind.wrap .u32 ((n:Int)-1)=((n-1:Nat):Int):=by
    have:(n:Int)-1=((n-1:Nat):Int):=by omega
    rw[this];exact nD (k:=.u32) (by simp only[top];omega)
   rw[aT,sC (k:=.u32) (by simpa[top]using ao) (by simp only[top];omega)];refine aN _ (ab1 aO) _ (b3 Nat.and_le_left ao) (by rw[b5,List.length_singleton];omega) ?_;have a5:zB (n:Int)=((kN n 32 0:Nat):Int):=by unfold zB;rw[bL]
   rw[a5];simpa using h
def bp{n:Nat}(ao:n<2^32):C n ((fb n).map λ(i:Nat)=>(i:Int)):=by
 obtain⟨r,I,aa⟩:=bj n (λr=>r=(fb n).map λ(i:Nat)=>(i:Int)) (loop n [] ao (by have:=xT (n:=n);simp;omega) (by simp));rw[<-I];exact aa
end sh
namespace BZ
def loop{k:Nat}{J:Int->Prop}(h:J (wE k)):∀(m i:Nat),i+m=min k 32->aJ k ((2^i-1:Nat):Int) i J
 |0,i,hi=>by
  apply bE;have e:((2^i-1:Nat):Int)=(wE k:Int):=by unfold wE;rw[<-hi,Nat.add_zero]
  rw[e]
  split
  .rw [if_neg (by omega)];exact h
  .exact h
 |m+1,i,hi=>by
  apply bE;rw[if_pos (by omega),if_pos (by omega)];refine⟨by omega,?_⟩;have af:2^(i+1)<=2^32:=cz (by decide) (by omega);have aa:0<2^i:=hP (by simp);rw[Nat.pow_succ]at af;rw[C0 (k:=.u32) (by simp only[top];omega),p9 (k:=.u32) (by simp only[top];omega) (by simp only[top];omega),dx (by omega)];have e:(2^i-1) ||| 2^i=2^(i+1)-1:=by
   apply Nat.eq_of_testBit_eq;intro j;rw[Nat.testBit_or,dR,Nat.testBit_two_pow,dR];by_cases I:j<i
   .have:j<i+1:=by omega
    simp[I,this]
   .by_cases aB:i=j
    .subst aB;simp
    .have:¬j<i+1:=by omega
     simp[I,aB,this]
  rw[e];exact loop h m (i+1) (by omega)
def bp{k:Nat}:C k (wE k):=by
 obtain⟨r,I,aa⟩:=bj k (λr=>r=(wE k:Int)) (loop (J:=λr=>r=(wE k:Int)) rfl (min k 32) 0 (by omega));rw[<-I];exact aa
end BZ
end Go.aS

namespace Go.aS
def aaQ{a b:Int}:nY a b=0↔a=b:=by
 unfold nY;repeat' split
 all_goals omega
def be:Nat->Nat->ay
 |0,_=>[]
 |j+1,u=>((u / 2^(8*j)%256:Nat):Int)::be j u
def G3:∀{j u},(be j u).length=j
 |0,_=>rfl
 |j+1,u=>by simp[be,G3]
def S3:∀{j u},∀x∈be j u,0<=x/\x<256
 |0,_,_,h=>by simp[be]at h
 |j+1,u,x,h=>by
  simp only[be,cD]at h;rcases h with rfl|h
  .omega
  .exact S3 x h
def Uh:∀{j u v},be j u=be j v->u%2^(8*j)=v%2^(8*j)
 |0,u,v,_=>by simp[Nat.mod_one]
 |j+1,u,v,h=>by
  simp only[be,aM]at h;have aN:=Uh h.2;have e:2^(8*(j+1))=2^(8*j)*256:=by rw[Nat.mul_add,Nat.pow_add]
  rw[e,Nat.mod_mul,Nat.mod_mul,aN];have:u / 2^(8*j)%256=v / 2^(8*j)%256:=by omega
  rw[this]
def ui(n:Int):Nat:=(n%18446744073709551616).toNat ^^^ 9223372036854775808
def KB{n:Int}:ui n<2^64:=Nat.xor_lt_two_pow (by omega) (by decide)
def ZZ{m n:Int}(hm : -9223372036854775808<=m/\m<9223372036854775808)(ao : -9223372036854775808<=n/\n<9223372036854775808)(h:ui m=ui n):m=n:=by
 unfold ui at h;have aa:(m%18446744073709551616).toNat=(n%18446744073709551616).toNat:=by
  have:=congrArg (· ^^^ 9223372036854775808) h;simpa[Nat.xor_assoc]using this
 omega
namespace Fs
def loop{J:ay->Prop}{u:Nat}(hu:u<2^64):∀(j:Nat)(acc:ay),j<=8->acc.length+j<=1000->J (acc++be j u)->aJ acc u (8*(j:Int)-8) J
 |0,acc,aH,hl,h=>by
  apply bE;rw[if_neg (by omega)];simpa[be]using h
 |j+1,acc,aH,hl,h=>by
  apply bE;rw[if_pos (by omega)];refine⟨by omega,by omega,?_⟩;have aT:8*((j+1:Nat):Int)-8=((8*j:Nat):Int):=by omega
  rw[aT,ot (k:=.u64) (by simpa[top]using hu),IntKind.wrap_u8,nF (by omega) (by omega)];have a5:((8*j:Nat):Int)-8=8*(j:Int)-8:=by omega
  rw[a5];refine loop hu j _ (by omega) (by simp;omega) ?_;have ez:((u / 2^(8*j):Nat):Int)%256=((u / 2^(8*j)%256:Nat):Int):=by omega
  rw[ez];simpa[be]using h
def bp{n:Int}{acc:ay}(hl:acc.length<=900):C n acc (acc++be 8 (ui n)):=by
 obtain⟨r,I,aa⟩:=bj n acc (λr=>r=acc++be 8 (ui n)) (by
  have e:jF .u64 (IntKind.wrap .u64 n) 9223372036854775808=(ui n:Int):=by
   have aT:IntKind.wrap .u64 n=(((n%18446744073709551616).toNat:Nat):Int):=by
    simp only[IntKind.wrap,IntKind.bits,IntKind.signed];simp;omega
   rw[aT];exact S2 (k:=.u64) (b:=9223372036854775808) (by simp only[top];omega) (by simp only[top];omega)
  rw[e]
  exact loop KB 8 acc (by omega) (by omega) rfl)
 rw[<-I];exact aa
end Fs
def iQ:List UInt8->ay
 |[]=>[]
 |b::r=>if eN b=0 then 0::255::iQ r else eN b::iQ r
def ab7{l:List UInt8}{b:UInt8}:iQ (l++[b])=iQ l++iQ [b]:=by
 induction l with
 |nil=>rfl
 |cons a l aN=>simp only[bo,iQ,aN];split<;>rfl
def Ge:∀{l:List UInt8},∀x∈iQ l,0<=x/\x<256
 |[],x,h=>by simp[iQ]at h
 |b::r,x,h=>by
  simp only[iQ]at h
  split at h
  .simp only[cD]at h;rcases h with rfl|rfl|h
   .omega
   .omega
   .exact Ge x h
  .simp only[cD]at h;rcases h with rfl|h
   .exact afX
   .exact Ge x h
def GM:∀{l:List UInt8},(iQ l).length<=2*l.length
 |[]=>by simp[iQ]
 |b::r=>by
  have:=GM (l:=r);simp only[iQ]
  split<;>simp only[aQ]<;>omega
def LH:∀{a b:List UInt8}{r s:ay},iQ a++(0::1::r)=iQ b++(0::1::s)->a=b/\r=s
 |[],[],r,s,h=>by simpa[iQ]using h
 |[],y::b,r,s,h=>by
  simp only[iQ]at h
  split at h
  .simp at h
  .rename_i aw;simp only[iZ,bo,aM]at h;exact absurd h.1.symm aw
 |x::a,[],r,s,h=>by
  simp only[iQ]at h
  split at h
  .simp at h
  .rename_i U;simp only[iZ,bo,aM]at h;exact absurd h.1 U
 |x::a,y::b,r,s,h=>by
  simp only[iQ]at h
  split at h
  .rename_i U
   split at h
   .rename_i aw;simp only[bo,aM,true_and]at h;obtain⟨I,aa⟩:=LH h;exact⟨by rw[I,T7.1 (U.trans aw.symm)],aa⟩
   .rename_i aw;simp only[bo,aM]at h;exact absurd h.1.symm aw
  .rename_i U
   split at h
   .rename_i aw;simp only[bo,aM]at h;exact absurd h.1 U
   .rename_i aw;simp only[bo,aM]at h;obtain⟨I,aa⟩:=LH h.2;exact⟨by rw[I,T7.1 h.1],aa⟩
def mH(v:dy):ay:=v.Kind::(if v.Kind=1∨v.Kind=3 then be 8 (ui v.h6)else if v.Kind=2 then iQ v.eX.toList++[0,1]else[])
def uu(v:dy):Prop:=-9223372036854775808<=v.h6/\v.h6<9223372036854775808
def Ct{v:dy}(h:hv v=true):v.Kind=0/\v.h6=0/\v.eX.toList=[]∨v.Kind=1/\v.eX.toList=[]∨v.Kind=2/\v.h6=0/\v.eX.toList.length<=200∨v.Kind=3/\1<=v.h6/\v.eX.toList=[]:=by
 simpa[hv]using h
def RC{v:dy}(h:hv v=true):∀x∈mH v,0<=x/\x<256:=by
 intro x U;have aj:0<=v.Kind/\v.Kind<=3:=by rcases Ct h with h|h|h|h<;>omega
 simp only[mH,cD]at U;rcases U with rfl|U
 .omega
 .split at U
  .exact S3 x U
  .split at U
   .rcases kf.1 U with U|U
    .exact Ge x U
    .simp at U;rcases U with rfl|rfl<;>omega
   .simp at U
def Gw{v:dy}(h:hv v=true):(mH v).length<=403:=by
 simp only[mH,aQ]
 split
 .rw [G3];omega
 .split
  .have:=GM (l:=v.eX.toList);have:v.eX.toList.length<=200:=by
    rcases Ct h with h|h|h|h
    .rw [h.2.2];simp
    .rw [h.2];simp
    .exact h.2.2
    .rw [h.2.2];simp
   simp;omega
  .simp
def acj{v w:dy}{r s:ay}(av:hv v=true)(hw:hv w=true)(ak0:uu v)(E1:uu w)(h:mH v++r=mH w++s):v=w/\r=s:=by
 obtain⟨k,n,t⟩:=v;obtain⟨k',eG,bz⟩:=w;simp only[mH,bo,aM]at h;obtain⟨rfl,h⟩:=h;have av:=Ct av;have hw:=Ct hw;simp only at av hw;simp only[dy.mk.injEq,true_and];by_cases I:k=1∨k=3
 .rw [if_pos I,if_pos I]at h;have aB:=List.append_inj h (by rw[G3,G3]);have aa:=Uh aB.1;rw[fB KB,fB KB]at aa;have e:=ZZ ak0 E1 aa;simp only at e;refine⟨⟨e,?_⟩,aB.2⟩;rw[<-Dh];have a2:t.toList=[]:=by rcases av with h|h|h|h<;>first|exact h.2.2|exact h.2|omega
  have bA:bz.toList=[]:=by rcases hw with h|h|h|h<;>first|exact h.2.2|exact h.2|omega
  rw[a2,bA]
 .rw [if_neg I,if_neg I]at h;by_cases aa:k=2
  .rw [if_pos aa,if_pos aa,ie,ie]at h;obtain⟨aT,a5⟩:=LH h;rw[Dh]at aT;exact⟨⟨by omega,aT⟩,a5⟩
  .rw [if_neg aa,if_neg aa]at h;have a2:t.toList=[]:=by rcases av with h|h|h|h<;>first|exact h.2.2|exact h.2|omega
   have bA:bz.toList=[]:=by rcases hw with h|h|h|h<;>first|exact h.2.2|exact h.2|omega
   exact⟨⟨by omega,by rw[<-Dh,a2,bA]⟩,by simpa using h⟩
def mI(v:dy):ByteArray:=wC (mH v)
namespace zp
def loop{v:dy}{J:ByteArray×Int->Prop}(aj:v.Kind=2)(ae:v.eX.toList.length<=200)(h:J (mI v,0)):∀(r:List UInt8)(k:Nat),v.eX.toList.drop k=r->k<=v.eX.toList.length->aJ v (2::iQ (v.eX.toList.take k)) k J:=by
 intro r
 induction r with
 |nil=>
  intro k ah jz;apply bE;have:=gd ah;rw[zX,if_neg (by omega),List.take_of_length_le this];have hl:=GM (l:=v.eX.toList);have e:mH v=(2::iQ v.eX.toList)++[0,1]:=by simp[mH,aj]
  refine⟨by simp only[aQ];omega,λx U=>?_,?_⟩
  .rcases kf.1 U with U|U
   .rcases cD.1 U with rfl|U
    .omega
    .exact Ge x U
   .simp at U;rcases U with rfl|rfl<;>omega
  .rw [<-e];exact h
 |cons b r aN=>
  intro k ah jz;have bU:=gl ah;apply bE;rw[zX,if_pos (by omega)];have hl:=GM (l:=v.eX.toList.take k);rw[cu]at hl;refine⟨b,LB (eO ah),by simp only[aQ];omega,b,LB (eO ah),?_⟩;have aN:=aN (k+1) (e4 ah) bU;have e:v.eX.toList.take (k+1)=v.eX.toList.take k++[b]:=by rw[c_,eO ah];rfl
  rw[e,ab7]at aN;have next:∀l,l=2::(iQ (v.eX.toList.take k)++iQ [b])->fX v l k J:=by
   rintro _ rfl;apply kT;rw[dx (by omega)];exact aN
  split
  .rename_i aO;refine⟨by simp only[b5,aQ,List.length_nil];omega,next _ ?_⟩;simp[iQ,aO]
  .rename_i aO;exact next _ (by simp[iQ,aO])
def bp{v:dy}(av:hv v=true):C v (mI v,0):=by
 obtain⟨r,I,aa⟩:=bj v (λr=>r=(mI v,0)) (by
  refine⟨_,xC.bp,?_⟩;rw[if_pos av];have ad:=Ct av;have aj:0<=v.Kind/\v.Kind<=3:=by rcases ad with h|h|h|h<;>omega
  have gT:IntKind.wrap .u8 v.Kind=v.Kind:=by rw[IntKind.wrap_u8];omega
  have two:∀b,(v.Kind=1∨v.Kind=3)->bm v b λr=>r=(mI v,0):=by
   intro b ag;apply cU;rw[gT];have e:mH v=[v.Kind]++be 8 (ui v.h6):=by simp[mH,ag]
   refine⟨_,Fs.bp (by simp),?_,?_⟩
   .rw [<-e];exact RC av
   .rw [<-e];rfl
  have three:¬(v.Kind=1∨v.Kind=3)->cd v λr=>r=(mI v,0):=by
   intro ag;apply fp;rw[gT]
   split
   .rename_i aa;have ae:v.eX.toList.length<=200:=by
     rcases ad with h|h|h|h
     .omega
     .omega
     .exact h.2.2
     .omega
    have:=loop (J:=λr=>r=(mI v,0)) aa ae rfl v.eX.toList 0 rfl (by omega);rw[aa];simpa[iQ]using this
   .rename_i aa;refine⟨λx U=>by simp at U;omega,?_⟩;simp[mI,mH,ag,aa]
  split
  .rename_i I;exact two _ (.inl I)
  .rename_i I
   split
   .rename_i aB;exact two _ (.inr aB)
   .rename_i aB;exact three (by omega))
 rw[<-I];exact aa
end zp
def oH(x:Int):UInt8:=UInt8.ofNat x.toNat
def aek{x y:Int}(U:0<=x/\x<256)(aw:0<=y/\y<256)(h:oH x=oH y):x=y:=by
 unfold oH at h;have:=congrArg UInt8.toNat h;simp at this;omega
def RL:∀{l m:ay},(∀x∈l,0<=x/\x<256)->(∀x∈m,0<=x/\x<256)->l.map oH=m.map oH->l=m
 |[],[],_,_,_=>rfl
 |[],_::_,_,_,h=>by simp at h
 |_::_,[],_,_,h=>by simp at h
 |x::l,y::m,I,aa,h=>by
  simp only[List.map_cons,aM]at h;rw[aek (I x (by simp)) (aa y (by simp)) h.1,RL (λz aG=>I z (by simp[aG])) (λz aG=>aa z (by simp[aG])) h.2]
def Sr{v:dy}:(mI v).data.toList=(mH v).map oH:=by
 unfold mI wC oH;simp
def Ss{v:dy}:(mI v).size=(mH v).length:=by
 have:(mI v).size=(mI v).data.toList.length:=rfl;rw[this,Sr,ba]
def kh(l:List dy):ay:=l.flatMap mH
def Q1{l:List dy}(h:∀v∈l,hv v=true):∀x∈kh l,0<=x/\x<256:=by
 intro x U;obtain⟨v,av,U⟩:=List.mem_flatMap.1 U;exact RC (h v av) x U
def Su:∀{l m:List dy},l.length=m.length->(∀v∈l,hv v=true/\uu v)->(∀v∈m,hv v=true/\uu v)->kh l=kh m->l=m
 |[],[],_,_,_,_=>rfl
 |[],_::_,h,_,_,_=>by simp at h
 |_::_,[],h,_,_,_=>by simp at h
 |v::l,w::m,hl,I,aa,h=>by
  simp only[kh,fx]at h;have a:=I v (by simp);have b:=aa w (by simp);obtain⟨aT,a5⟩:=acj a.1 b.1 a.2 b.2 h;rw[aT,Su (by simpa using hl) (λz aG=>I z (by simp[aG])) (λz aG=>aa z (by simp[aG])) a5]
def gy(l:List dy):ByteArray:=rE ((kh l).map oH)
def KF{l m:List dy}(hl:l.length=m.length)(I:∀v∈l,hv v=true/\uu v)(aa:∀v∈m,hv v=true/\uu v):gy l=gy m↔l=m:=by
 constructor
 .intro h;have aB:(kh l).map oH=(kh m).map oH:=by
   have:=congrArg ByteArray.toList h;unfold gy at this
   rwa [LC,LC]at this
  exact Su hl I aa (RL (Q1 λv av=>(I v av).1) (Q1 λv av=>(aa v av).1) aB)
 .rintro rfl;rfl
def pick(l:List dy)(n:Nat):List dy:=(fb n).filterMap λi=>l[i]?
def L1(a b:List dy)(n:Nat):Bool:=decide (pick a n=pick b n)
def UA{a b:List dy}(hl:a.length=b.length):∀{l:List Nat},(l.filterMap λi=>a[i]?)=(l.filterMap λi=>b[i]?)↔∀i∈l,a[i]?=b[i]?
 |[]=>by simp
 |k::l=>by
  have aN:=UA (a:=a) (b:=b) hl (l:=l);by_cases h:k<a.length
  .have aT:=aA h;have a5:=aA (l:=b) (i:=k) (by omega);simp only[cA,aT,a5,aM,aN,gD,aE]
  .have aT:a[k]?=none:=cc (by omega);have a5:b[k]?=none:=cc (by omega);simp only[cA,aT,a5,aN,gD,true_and]
def aaE{a b:List dy}{n:Nat}(ao:n<2^32)(hl:a.length=b.length):L1 a b n=true↔∀i,n.testBit i=true->a[i]?=b[i]?:=by
 unfold L1 pick;rw[decide_eq_true_iff,UA hl];constructor
 .exact λh i hi=>h i ((oj ao).2 hi)
 .exact λh i hi=>h i ((oj ao).1 hi)
def x3{l:List dy}{n:Nat}:∀v∈pick l n,v∈l:=by
 intro v av;obtain⟨i,_,hi⟩:=hF.1 av;exact a6 hi
def acG{l:List dy}{n:Nat}:(pick l n).length<=32:=hQ (gj _ _) xT
structure kl(t:cH):Prop where
 name:sN t.Name=true
 pT:t.bl.length<=16
 BA:t.Rows.length<=1000
 names:um t.bl=true
 rows:nL t.bl.length 0 t.Rows=0
def xV{t:cH}:kP t=0↔kl t:=by
 unfold kP;constructor
 .intro h
  split at h
  .split at h
   .cases h
   .split at h
    .cases h
    .split at h
     .rename_i I aa aB aW;exact⟨I,by omega,by omega,aW,h⟩
     .cases h
  .cases h
 .intro h;rw[if_pos h.name,if_neg (by have:=h.pT;omega),if_neg (by have:=h.BA;omega),if_pos h.names];exact h.rows
def KO{n:Nat}:∀{l:List h7}{last:Int},nL n last l=0->∀r∈l,r.di.length=n/\(∀v∈r.di,hv v=true)/\last<r.my
 |[],_,_,r,hr=>by cases hr
 |a::l,last,h,r,hr=>by
  simp only[nL]at h
  split at h
  .cases h
  .split at h
   .split at h
    .rename_i I aa aB;unfold rm at aB;rw[List.all_eq_true]at aB;rcases cD.1 hr with rfl|hr
     .exact ⟨aa,aB,by omega⟩
     .obtain ⟨aT,a5,ez⟩:=KO h r hr;exact⟨aT,a5,by omega⟩
    .cases h
   .cases h
def kl.len{t:cH}(h:kl t){r:h7}(hr:r∈t.Rows):r.di.length=t.bl.length:=(KO h.rows r hr).1
def kl.val{t:cH}(h:kl t){r:h7}(hr:r∈t.Rows):∀v∈r.di,hv v=true:=(KO h.rows r hr).2.1
def rz(t:cH):Prop:=∀r∈t.Rows,∀v∈r.di,uu v
def TZ{x:Int}:zt.C x false:=by
 obtain⟨r,I,aa⟩:=zt.bj x (λr=>r=false) (by simp);rw[<-I];exact aa
def Zi{x y:Int}:vA.C x y (nY x y):=by
 obtain⟨r,I,aa⟩:=vA.bj x y (λr=>r=nY x y) ⟨_,TZ,_,TZ,by
  rw[if_neg hc,if_neg hc];unfold nY
  split
  .rfl
  .split<;>rfl⟩
 rw[<-I];exact aa
def kF(m:Nat):Nat:=((cx 8).filter λi=>m.testBit i).length
def FW{n k:Nat}:((cx 8).map (·+k)).filter (λi=>n.testBit i)=((cx 8).filter λi=>(n / 2^k%256).testBit i).map (·+k):=by
 rw[List.filter_map];congr 1;refine List.filter_congr λi hi=>?_;have hi:=List.mem_range.1 hi;simp only[Function.comp];rw[show(256:Nat)=2^8 from rfl,Nat.testBit_mod_two_pow,Nat.testBit_div_two_pow];simp[hi]
def abx(n:Nat):og n=kF (n%256)+kF (n / 2^8%256)+kF (n / 2^16%256)+kF (n / 2^24%256):=by
 have e:cx 32=(cx 8).map (·+0)++(cx 8).map (·+8)++(cx 8).map (·+16)++(cx 8).map (·+24):=by decide
 unfold og fb kF;rw[e,eb,eb,eb,FW,FW,FW,FW];simp only[b5,ba,Nat.pow_zero,Nat.div_one]
def aej(a:Nat):a &&& 255=a%256:=Nat.and_two_pow_sub_one_eq_mod a 8
def Da{m:Nat}:kF m<=8:=by
 unfold kF;exact hQ (List.length_filter_le _ _) (by simp)
def GV{m:Nat}:eN (UInt8.ofNat (kF m))=(kF m:Int):=by
 unfold eN;rw[UInt8.toNat_ofNat'];have:=Da (m:=m);omega
def BR.bp{n:Nat}(ao:n<2^32):BR.C n (og n:Int):=by
 obtain⟨r,I,aa⟩:=BR.bj n (λr=>r=(og n:Int)) (by
  have al:n<2^top .u32:=by simpa[top]using ao
  have MX:=ot (k:=.u32) (a:=n) (i:=24) al;have MW:=ot (k:=.u32) (a:=n) (i:=16) al;have s3:=ot (k:=.u32) (a:=n) (i:=8) al;rw[show((24:Nat):Int)=24 from rfl]at MX;rw[show((16:Nat):Int)=16 from rfl]at MW;rw[show((8:Nat):Int)=8 from rfl]at s3;have HA:∀a:Nat,a<2^32->dW .u32 (a:Int) 255=((a%256:Nat):Int):=λa aC=>by
   have:=sC (k:=.u32) (a:=a) (b:=255) (by simpa[top]using aC) (by simp only[top];omega);rw[show((255:Nat):Int)=255 from rfl]at this;rw[this,aej]
  rw[MX,MW,s3,HA _ (b3 (jr _ _) ao),HA _ (b3 (jr _ _) ao),HA _ ao];have w6:n / 2^24<256:=by omega
  have em:n / 2^24=n / 2^24%256:=(fB w6).symm;have ae:=abx n;rw[em];have h1:n / 2^24%256<256:=fW _ (by omega);have hD:n / 2^16%256<256:=fW _ (by omega);have pS:n / 2^8%256<256:=fW _ (by omega);have OY:n%256<256:=fW _ (by omega);generalize n / 2^24%256=b_ at *;generalize n / 2^16%256=cM at *;generalize n / 2^8%256=fI at *;generalize n%256=oY at *;clear ao al MX MW s3 HA w6 em;refine⟨UInt8.ofNat (kF b_),⟨by omega,?_⟩,UInt8.ofNat (kF cM),⟨by omega,?_⟩,UInt8.ofNat (kF fI),⟨by omega,?_⟩,UInt8.ofNat (kF oY),⟨by omega,?_⟩,?_⟩
  .rw [bL];clear ae hD pS OY
   revert b_
   decide +kernel
  .rw [bL];clear ae h1 pS OY
   revert cM
   decide +kernel
  .rw [bL];clear ae h1 hD OY
   revert fI
   decide +kernel
  .rw [bL];clear ae h1 hD pS
   revert oY
   decide +kernel
  .rw [GV,GV,GV,GV];have cb:=Da (m:=b_);have cK:=Da (m:=cM);have cS:=Da (m:=fI);have dh:=Da (m:=oY);have PY:∀a b:Nat,a+b<256->IntKind.wrap .u8 ((a:Int)+(b:Int))=((a+b:Nat):Int):=λa b h=>by
    rw[show(a:Int)+(b:Int)=((a+b:Nat):Int) by omega];exact nD (k:=.u8) (by simpa[top]using h)
   rw[PY _ _ (by omega),PY _ _ (by omega),PY _ _ (by omega),ae];have:kF b_+kF cM+kF fI+kF oY=kF oY+kF fI+kF cM+kF b_:=by omega
   rw[this]
   exact nF (by omega) (by omega))
 rw[<-I];exact aa
def xB.bp{x:Int}(U:dz x):xB.C x (og (bh x):Int):=by
 have:=BR.bp U.lt;rw[<-U.eq]at this;obtain⟨r,I,aa⟩:=xB.bj x (λr=>r=(og (bh x):Int)) ⟨_,this,rfl⟩;rw[<-I];exact aa
def po(l:List bC):Prop:=∀d∈l,dz d.bX/\dz d.bZ
def gX(n:Nat)(l r:Int):Bool:=decide (bh l<2^n)&&decide (bh r<2^n)
def Mg{n:Nat}{l r:Int}(hl:dz l)(hr:dz r):(ft .u32 (eZ .u32 l r) (n:Int)=0)↔gX n l r=true:=by
 rw[hl.eq,hr.eq,p9 hl.top hr.top,ot (hR hl.top hr.top)];unfold gX;rw[ig,decide_eq_true_iff,decide_eq_true_iff];have aT:bh (bh l:Int)=bh l:=by unfold bh;omega
 have a5:bh (bh r:Int)=bh r:=by unfold bh;omega
 rw[aT,a5,<-Hi,<-Ta];omega
def ko(n:Int)(l:List bC):Int:=if n<0∨16<n then 7 else if 64<l.length then 3 else if(l.all λd=>gX n.toNat d.bX d.bZ)=true then 0 else 1
def SZ{O:Type}{l:List O}{p:O->Bool}{L:Int->Prop}{J:Int->Prop}(stop:J 0->L (l.length:Int))
  (step:∀(k:Nat) a,l[k]?=some a->k<l.length->(if p a=true then L ((k+1:Nat):Int)else J 1)->L k) (h:J (if l.all p=true then 0 else 1)):L 0:=
 KZ (l:=l) (p:=p) (L:=L) (J:=λb=>J (if b=true then 0 else 1)) (λh=>stop (by simpa using h)) (λk a aC aj h=>step k a aC aj (by simpa using h)) h
def vC.bp{n:Int}{l:List bC}(hl:po l):vC.C n l (ko n l):=by
 obtain⟨r,I,aa⟩:=vC.bj n l (λr=>r=ko n l) (by
  by_cases a:n<0∨16<n
  .have e:ko n l=7:=if_pos a;rw[e];by_cases b:n<0
   .rw [if_pos b]
   .rw [if_neg b,if_pos (by omega)]
  .rw [if_neg (by omega),if_neg (by omega)];by_cases b:64<l.length
   .have e:ko n l=3:=by unfold ko;rw[if_neg a,if_pos b]
    rw[e,if_pos (by omega)]
   .have e:ko n l=if(l.all λd=>gX n.toNat d.bX d.bZ)=true then 0 else 1:=by unfold ko;rw[if_neg a,if_neg b]
    rw[e,if_neg (by omega)]
    .obtain ⟨m,rfl⟩:∃m:Nat,n=m:=⟨n.toNat,by omega⟩
     refine SZ (l:=l) (p:=λd=>gX m d.bX d.bZ) (L:=λi=>vC.aJ m l i _) (J:=λr=>r=_) ?_ ?_ rfl
     .intro h;apply vC.bE;rw[if_neg (by omega)];exact h
     .intro k d ah aj h;apply vC.bE;rw[if_pos (by omega)];refine⟨d,hG ah,by omega,?_⟩;have l0:=hl d (a6 ah);have e:=Mg (n:=m) l0.1 l0.2;rw[dx (by omega)]
      split
      .rename_i aU;rw[if_pos (e.1 aU)]at h;exact h
      .rename_i aU;rw[if_neg (λaB=>aU (e.2 aB))]at h;exact h)
 rw[<-I];exact aa
def L6{n:Int}{l:List bC}(h:ko n l=0):0<=n/\n<=16:=by
 unfold ko at h
 split at h
 .cases h
 .omega
def rq(l:List br):Prop:=∀d∈l,dz d.bX/\dz d.bZ
def hy(n:Int)(l:List bC)(m:List br):Int:=if ko n l=0 then(if 64<m.length then 3 else if(m.all λd=>gX n.toNat d.bX d.bZ)=true then 0 else 1)else ko n l
def mN.bp{n:Int}{l:List bC}{m:List br}(hl:po l)(hm:rq m):mN.C n l m (hy n l m):=by
 obtain⟨r,I,aa⟩:=mN.bj n l m (λr=>r=hy n l m) (by
  refine⟨_,vC.bp hl,?_⟩;unfold hy
  split
  .rename_i aO;have ao:=L6 aO
   split
   .rw [if_pos (by omega)]
   .rw [if_neg (by omega)];obtain⟨q,rfl⟩:∃q:Nat,n=q:=⟨n.toNat,by omega⟩
    refine SZ (l:=m) (p:=λd=>gX q d.bX d.bZ) (L:=λi=>mN.aJ q m i _) (J:=λr=>r=_) ?_ ?_ rfl
    .intro h;apply mN.bE;rw[if_neg (by omega)];exact h
    .intro k d ah aj h;apply mN.bE;rw[if_pos (by omega)];refine⟨d,hG ah,by omega,?_⟩;have l0:=hm d (a6 ah);have e:=Mg (n:=q) l0.1 l0.2;rw[dx (by omega)]
     split
     .rename_i aU;rw[if_pos (e.1 aU)]at h;exact h
     .rename_i aU;rw[if_neg (λaB=>aU (e.2 aB))]at h;exact h
  .rfl)
 rw[<-I];exact aa
def mY(t:cH)(n:Nat):List (List dy):=t.Rows.map λr=>pick r.di n
def xZ{t:cH}{n:Nat}:(mY t n).length=t.Rows.length:=by simp[mY]
def acF{t:cH}(al:kl t){n i j:Nat}(ao:n<2^32)(hi:i<t.Rows.length)(aH:j<t.Rows.length):(mY t n)[i]?=(mY t n)[j]?↔∀k,n.testBit k=true->(t.Rows[i]'hi).di[k]?=(t.Rows[j]'aH).di[k]?:=by
 unfold mY;rw[bB,bB,aA hi,aA aH];simp only[gC,aE];rw[<-aaE ao (by rw[al.len (dn hi),al.len (dn aH)])];unfold L1;rw[decide_eq_true_iff]
def Mv(t:cH)(l r i k:Nat):Prop:=(mY t l)[i]?=(mY t l)[k]?->(mY t r)[i]?=(mY t r)[k]?
def qq(t:cH)(l r:Nat):Prop:=∀i k,i<t.Rows.length->k<i->Mv t l r i k
def qq.all{t:cH}{l r:Nat}(h:qq t l r){i k:Nat}(hi:i<t.Rows.length)(aj:k<t.Rows.length):Mv t l r i k:=by
 rcases Nat.lt_trichotomy i k with I|I|I
 .exact λe=>(h k i aj I e.symm).symm
 .subst I;exact λ_=>rfl
 .exact h i k hi I
def nN(t:cH)(i k a:Nat):Prop:=(t.Rows[i]?.map λr=>r.di[a]?)=(t.Rows[k]?.map λr=>r.di[a]?)
instance (t:cH) (i k a:Nat):Decidable (nN t i k a):=by unfold nN;infer_instance
def CY{t:cH}(al:kl t){n i j:Nat}(ao:n<2^32)(hi:i<t.Rows.length)(aH:j<t.Rows.length):(mY t n)[i]?=(mY t n)[j]?↔∀k,n.testBit k=true->nN t i j k:=by
 rw[acF al ao hi aH];unfold nN;rw[aA hi,aA aH];simp only[gC,aE]
def aeb{t:cH}(al:kl t){l r:Nat}(hl:l<2^32)(hr:r<2^32):qq t l r↔∀i k,i<t.Rows.length->k<i->(∀a,l.testBit a=true->nN t i k a)->∀a,r.testBit a=true->nN t i k a:=by
 unfold qq Mv;constructor
 .intro h i k hi aj;have:=h i k hi aj;rw[CY al hl hi (by omega),CY al hr hi (by omega)]at this;exact this
 .intro h i k hi aj;rw[CY al hl hi (by omega),CY al hr hi (by omega)];exact h i k hi aj
def agz(t:cH)(left i k:Nat):Prop:=∃j,j<t.Rows.length/\(∀a,left.testBit a=true->nN t j i a)/\∀a,a<t.bl.length->left.testBit a=false->nN t j k a
def sQ(t:cH)(l r:Nat):Prop:=∀i k,i<t.Rows.length->k<t.Rows.length->(∀a,l.testBit a=true->nN t i k a)->agz t (l ||| r) i k
open Classical in
noncomputable def xq(t:cH)(l r:Nat):Bool:=decide (sQ t l r)
def LP{t:cH}{l r:Nat}:xq t l r=true↔sQ t l r:=by unfold xq;exact @decide_eq_true_iff _ (Classical.propDecidable _)
def ak_{l r:Int}(hl:dz l)(hr:dz r):eZ .u32 l r=((bh l ||| bh r:Nat):Int):=by
 conv=>lhs;rw[hl.eq,hr.eq]
 exact p9 hl.top hr.top
def Um{n:Nat}{l r:Int}:gX n l r=true↔bh l ||| bh r<2^n:=by
 unfold gX;rw[ig,decide_eq_true_eq,decide_eq_true_eq,Hi]
noncomputable def Ai(t:cH)(m:br):Bool×Int:=if gX t.bl.length m.bX m.bZ=true then(xq t (bh m.bX) (bh m.bZ),0)else(false,1)
def KG{l m:List dy}:gy l++gy m=gy (l++m):=by
 rw[<-Dh,Au];unfold gy;rw[LC];simp[rE,kh,hb]
def ack{v:dy}:mI v=gy [v]:=by
 unfold mI wC gy rE kh;simp[oH]
def RE{l:List dy}:(gy l).size=(kh l).length:=by
 show(gy l).data.size=_;unfold gy rE;rw[List.size_toArray,ba]
def KE:∀{l:List dy},(∀v∈l,hv v=true)->(kh l).length<=403*l.length
 |[],_=>by simp[kh]
 |a::l,h=>by
  have I:=KE (l:=l) λv av=>h v (by simp[av]);have aa:=Gw (h a (by simp));simp only[kh,fx,b5,aQ]at I⊢;omega
def Tw{l:List dy}{n:Nat}(h:∀v∈l,hv v=true):(gy (pick l n)).size<=12896:=by
 rw[RE];have I:=KE (l:=pick l n) λv av=>h v (x3 v av);have aa:=acG (l:=l) (n:=n);omega
def L7{a b:List dy}(hl:a.length=b.length):∀{l:List Nat},(l.filterMap λi=>a[i]?).length=(l.filterMap λi=>b[i]?).length
 |[]=>rfl
 |k::l=>by
  have aN:=L7 (a:=a) (b:=b) hl (l:=l);by_cases h:k<a.length
  .have aT:=aA h;have a5:=aA (l:=b) (i:=k) (by omega);simp only[cA,aT,a5,aQ,aN]
  .have aT:a[k]?=none:=cc (by omega);have a5:b[k]?=none:=cc (by omega);simp only[cA,aT,a5,aN]
def k6(t:cH)(n:Nat):ew:=part (mY t n)
def acA{t:cH}{n:Nat}(h:kl t)(ao:rz t):part (t.Rows.map λr=>gy (pick r.di n))=k6 t n:=by
 unfold k6 mY;refine abE (by simp) λi j hi aH=>?_;rw[ba]at hi aH;rw[bB,bB,bB,bB,aA hi,aA aH];simp only[gC,aE];have h1:=dn hi;have hD:=dn aH;refine KF (L7 (by rw[h.len h1,h.len hD])) (λv av=>?_) (λv av=>?_)
 .exact ⟨h.val h1 v (x3 v av),ao _ h1 v (x3 v av)⟩
 .exact ⟨h.val hD v (x3 v av),ao _ hD v (x3 v av)⟩
namespace zv
def inner{t:cH}{n:Nat}{J:ew->Prop}{ks:List ByteArray}{k:Nat}{r:h7}(al:kl t)(ao:n<2^t.bl.length)(hr:r∈t.Rows)(aj:k<1000)(l4:k<ks.length)
  (h:aJ t ((fb n).map λ(i:Nat)=>(i:Int)) (ks.set k (gy (pick r.di n))) ((k+1:Nat):Int) J):∀j,j<=(fb n).length ->
  bm t ((fb n).map λ(i:Nat)=>(i:Int)) ks k r ((kh (((fb n).take j).filterMap λi=>r.di[i]?)).map oH) k j J:=by
 have Bb:n<2^32:=cT ao (cz (by decide) (by have:=al.pT;omega));have hl:=xT (n:=n);refine down ?_ ?_
 .apply cU;rw[ba,if_neg (by omega),hq];refine⟨ks[k],by rw[gP];exact aA l4,?_⟩;rw[dx (by omega)];have e:b7 ks (k:Int) (gy (pick r.di n))=ks.set k (gy (pick r.di n)):=by simp[b7]
  unfold gy pick at e h;rw[e];exact h
 .intro j aH h;apply cU;rw[ba,if_pos (by omega)];have lx:=aA aH;generalize(fb n)[j]=i at lx;have hi:=(oj Bb).1 (a6 lx);have ai1:i<t.bl.length:=by
   false_or_by_contra
   rename_i aU;rw[Nat.testBit_lt_two_pow (cT ao (cz (by decide) (by omega)))]at hi;cases hi
  have y8:=al.len hr;have av:=aA (l:=r.di) (i:=i) (by omega);generalize r.di[i]'(by omega)=v at av;have gI:=al.val hr v (a6 av);refine⟨(i:Int),by rw[gP,bB,lx];rfl,v,hG av,(mI v,0),zp.bp gI,?_⟩;have EG:∀l:List dy,(∀v∈l,hv v=true)->(kh l).length<=403*l.length:=by
   intro l
   induction l with
   |nil=>simp[kh]
   |cons a l aN=>
    intro aU;have:=aN λv av=>aU v (by simp[av]);have aa:=Gw (aU a (by simp));simp only[kh,fx,b5,aQ]at this⊢;omega
  have I:=EG (((fb n).take j).filterMap λi=>r.di[i]?) (λv av=>by
   obtain⟨i,_,hi⟩:=hF.1 av
   exact al.val hr v (a6 hi))
  have aa:(((fb n).take j).filterMap λi=>r.di[i]?).length<=32:=hQ (gj _ _) (by rw[cu];omega);have aB:=Gw gI;refine⟨?_,?_⟩
  .rw [ba];have:(mI v).size=(mH v).length:=Ss;simp only[this];omega
  .rw [dx (by omega)];have e:(((fb n).take (j+1)).filterMap λi=>r.di[i]?)=(((fb n).take j).filterMap λi=>r.di[i]?)++[v]:=by
    rw[c_,lx,List.filterMap_append];simp[av]
   rw[e]at h;simp only[kh,hb,List.map_append]at h;rw[Sr];simpa[kh]using h
def bp{t:cH}{n:Nat}(al:kl t)(Iw:rz t)(ao:n<2^t.bl.length):C t n (k6 t n):=by
 have Bb:n<2^32:=cT ao (cz (by decide) (by have:=al.pT;omega));have hr:=al.BA;obtain⟨q,I,aa⟩:=bj t n (λq=>q=k6 t n) (by
  refine⟨_,sh.bp Bb,by omega,?_⟩;have loop:∀k,k<=t.Rows.length->aJ t ((fb n).map λ(i:Nat)=>(i:Int)) ((t.Rows.take k).map (λr=>gy (pick r.di n))++du (t.Rows.length-k) (⟨#[]⟩:ByteArray)) k λq=>q=k6 t n:=by
   refine down ?_ ?_
   .apply bE;rw[if_neg (by omega),hq,Nat.sub_self,List.replicate_zero,List.append_nil];refine⟨_,Fi.bp (by rw[ba];omega),?_⟩;rw[<-acA al Iw];simp[part]
   .intro k aj h;apply bE;rw[if_pos (by omega)];have lx:=aA aj;generalize t.Rows[k]=r at lx;refine⟨r,hG lx,?_⟩;have:=inner (t:=t) (n:=n) (J:=λq=>q=k6 t n) (ks:=(t.Rows.take k).map (λr=>gy (pick r.di n))++du (t.Rows.length-k) (⟨#[]⟩:ByteArray)) (k:=k) (r:=r) al ao (a6 lx) (by omega) (by simp[cu];omega) (by
     have e:((t.Rows.take k).map (λr=>gy (pick r.di n))++du (t.Rows.length-k) (⟨#[]⟩:ByteArray)).set k (gy (pick r.di n))=(t.Rows.take (k+1)).map (λr=>gy (pick r.di n))++du (t.Rows.length-(k+1)) (⟨#[]⟩:ByteArray):=by
      have hl:((t.Rows.take k).map (λr=>gy (pick r.di n))).length=k:=by rw[ba,cu];omega
      obtain⟨m,hm⟩:∃m,t.Rows.length-k=m+1:=⟨t.Rows.length-k-1,by omega⟩
      rw[List.set_append_right _ _ (by omega),hl,Nat.sub_self,hm,List.replicate_succ,List.set_cons_zero,c_,lx];have:t.Rows.length-(k+1)=m:=by omega
      rw[this];simp
     rw[e];exact h) 0 (fR _)
    simpa[kh]using this
  have:=loop 0 (fR _)
  simpa using this)
 rw[<-I];exact aa
end zv
def BY.bp{t:cH}{n:Nat}(ao:n<2^32):BY.C t n (decide (n<2^t.bl.length)):=by
 obtain⟨q,I,aa⟩:=BY.bj t n (λq=>q=decide (n<2^t.bl.length)) (by
  refine⟨by omega,?_⟩;have Ww:n<2^top .u64:=cT ao (by decide);rw[nD Ww,ot Ww];have:(((n / 2^t.bl.length:Nat):Int)=0)↔n<2^t.bl.length:=by
   have af:0<2^t.bl.length:=hP (by simp);constructor
   .intro h;have aa:n / 2^t.bl.length=0:=by omega
    rw[Nat.div_eq_zero_iff]at aa;omega
   .intro h;rw[Nat.div_eq_of_lt h];rfl
  by_cases aU:n<2^t.bl.length
  .simp [aU,this.2 aU]
  .have aB:¬((n / 2^t.bl.length:Nat):Int)=0:=λh=>aU (this.1 h);rw[decide_eq_false aU]
   simpa using aB)
 rw[<-I];exact aa
def abJ{t:cH}(hr:t.Rows.length<=1000){l r:Nat}:Ht (k6 t l) (k6 t r)↔qq t l r:=by
 have ag:wB (k6 t l) (k6 t r)=0:=by
  have v1:lh (k6 t l)=true:=Ko (by rw[xZ];exact hr);have v2:lh (k6 t r)=true:=Ko (by rw[xZ];exact hr);have e:(k6 t l).Rows=(k6 t r).Rows:=by simp[k6,part,xZ]
  simp[wB,v1,v2,e]
 have yD:(k6 t l).Rows=(t.Rows.length:Int):=by simp[k6,part,xZ]
 have key:∀(n i j:Nat),i<t.Rows.length->j<t.Rows.length->(oC (k6 t n) i j↔(mY t n)[i]?=(mY t n)[j]?):=λn i j hi aH=>by
  unfold k6;rw[abh (by rw[xZ];omega) (by rw[xZ];omega),gP,gP]
 constructor
 .rintro ⟨_,h⟩ i k hi aj e;exact(key r i k hi (by omega)).1 (h i k (by omega) (by omega) ((key l i k hi (by omega)).2 e))
 .intro h;refine⟨ag,λi j hi aH ae=>?_⟩;obtain⟨i,rfl⟩:∃n:Nat,i=n:=⟨i.toNat,by omega⟩
  obtain⟨j,rfl⟩:∃n:Nat,j=n:=⟨j.toNat,by omega⟩
  exact(key r i j (by omega) (by omega)).2 (h.all (by omega) (by omega) ((key l i j (by omega) (by omega)).1 ae))
def yb(t:cH)(l r:Nat):Int:=if kP t=0 then(if l ||| r<2^t.bl.length then 0 else 6)else kP t
def B0.bp{t:cH}{fd:bC}{l r:Nat}(Iw:rz t)(el:fd.bX=l)(yD:fd.bZ=r)(hl:l<2^32)(hr:r<2^32):∃q,B0.C t fd q/\q.2=yb t l r/\(q.1=true↔yb t l r=0/\qq t l r):=by
 obtain⟨q,I,aa⟩:=B0.bj t fd (λq=>q.2=yb t l r/\(q.1=true↔yb t l r=0/\qq t l r)) (by
  refine⟨_,xD.bp,?_⟩;unfold yb
  split
  .rename_i aO;have al:=xV.1 aO;rw[el,yD,p9 (k:=.u32) (by simpa[top]using hl) (by simpa[top]using hr)];refine⟨_,BY.bp (hR hl hr),?_⟩;by_cases aU:l ||| r<2^t.bl.length
   .rw [if_pos (decide_eq_true aU),if_pos aU];have ajf:l<2^t.bl.length:=b3 Nat.left_le_or aU;have Oe:r<2^t.bl.length:=b3 Nat.right_le_or aU;have FC:∀m,sK (k6 t m):=λm=>aag (by rw[xZ];exact al.BA);obtain⟨b,ag,g8⟩:=BX.bp (FC l) (FC r);refine⟨_,zv.bp al Iw ajf,_,zv.bp al Iw Oe,b,ag,rfl,?_⟩;rw[g8,abJ al.BA];simp
   .rw [if_neg (by simpa using aU),if_neg aU];simp
  .rename_i aO;simp[aO])
 exact⟨q,aa,I⟩
def YS{l:ay}{x:Int}(ao:l.length<1000000000):Ja.C l x (decide (x∈l)):=by
 have am:(l.any λa=>decide (x=a))=decide (x∈l):=by
  rw[Bool.eq_iff_iff,List.any_eq_true,decide_eq_true_eq];constructor
  .rintro ⟨a,aC,h⟩;rw[of_decide_eq_true h];exact aC
  .intro h;exact⟨x,h,decide_eq_true rfl⟩
 obtain⟨q,c5,eo⟩:=BQ.bj l x (λr=>r=tu (λa=>decide (x=a)) l) (by
  refine Kl (l:=l) (p:=λa=>decide (x=a)) (L:=λi=>BQ.aJ l x i _) (J:=λr=>r=tu (λa=>decide (x=a)) l) ?_ ?_ rfl
  .intro h;apply BQ.bE;rw[if_neg (by omega)];exact h
  .intro k a aC aj h;apply BQ.bE;rw[if_pos (by omega)];refine⟨a,hG aC,?_⟩;rw[dx (by omega)];by_cases U:x=a
   .rw [if_pos U];rw[if_pos (decide_eq_true U)]at h;exact h
   .rw [if_neg U];rw[if_neg (by rw[decide_eq_false U];decide)]at h;exact h)
 subst c5;obtain⟨r,I,aa⟩:=Ja.bj l x (λr=>r=decide (x∈l)) ⟨_,eo,by rw[LM,am]⟩;rw[<-I];exact aa
end Go.aS
