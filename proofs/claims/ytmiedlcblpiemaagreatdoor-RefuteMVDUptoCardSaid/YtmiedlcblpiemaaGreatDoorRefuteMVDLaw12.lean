/- What the functions answer. No conditions. -/
import Derived.Test.YtmiedlcblpiemaaGreatDoorRefuteMVDLaw8
import Derived.Test.YtmiedlcblpiemaaGreatDoorRefuteMVDLaw9
set_option linter.all false
open List renaming getElem?_eq_getElem->zA,length_cons->zB,mem_of_getElem?->zC,getElem?_map->zD,length_map->zF,cons_append->zG,getElem_mem->zH,length_take->zM,filterMap_cons->zN,length_append->zO,getElem?_eq_none->zR,range->zS,mem_cons->zT,length_nil->zV,length_filterMap_le->zW,take_add_one->zX,length_drop->zZ,replicate->yB,filter_append->yD,flatMap_cons->yE,mem_append->yH,length_filter_le->yL,filterMap_append->yM,forall_mem_cons->yN,flatMap_append->yQ,mem_filterMap->yS,append_assoc->yT,take_length->yU,nil_append->yV,mem_filter->yW
open List.cons renaming injEq->zE
open Int renaming toNat_natCast->zI
open Nat renaming lt_of_le_of_lt->zK,pow_le_pow_right->zL,lt_of_lt_of_le->zP,zero_le->zU,or_lt_two_pow->zY,le_trans->yA,testBit_two_pow_sub_one->yC,mod_eq_of_lt->yF,not_lt_zero->yJ,testBit_lt_two_pow->yK,mod_lt->yO,pos_of_ne_zero->yR,div_le_self->yX
open Bool renaming eq_false_iff->zQ,and_eq_true->yG,true_and->yP
open Option renaming map_some->yI
namespace Go.Own
def letB(x:Int):Bool:=decide (97<=x/\x<=122∨65<=x/\x<=90∨x=95)
def alnB(x:Int):Bool:=letB x || decide (48<=x/\x<=57)
def Aob:List UInt8:=[110,117,108,108]
def Bcb:(⟨#[110,117,108,108]⟩:ByteArray).toList=Aob:=Aya (l:=Aob)
def Az1:(⟨#[]⟩:ByteArray).toList=[]:=Aya (l:=[])
def Ac7:List UInt8->Bool
 |[]=>false
 |b::r=>decide (r.length<24)&&letB (u8i b)&&!decide (b::r=Aob)&&r.all fun b=>alnB (u8i b)
def Agv(s:ByteArray):Bool:=Ac7 s.toList
namespace q40_
def sP{x:Int}:C x (letB x):=by
  obtain⟨r,h1,h2⟩:=nt x (fun r=>r=letB x) (by
    unfold letB
    repeat' split
    all_goals first
      |(symm;rw[decide_eq_true_iff];omega)
      | (by_cases h : x = 95
         · simp[h]
         · have:(x==95)=false:=by simpa using h
           rw[this];symm;rw[decide_eq_false_iff_not];omega))
  rw[<-h1];exact h2
end q40_
def Ayt{J:Bool->Prop}{P:Prop}{x:Int}(h:if alnB x=true then P else J false)(hl:¬letB x=true):if x<48 then J false else if 57<x then J false else P:=by
 have e:alnB x=decide (48<=x/\x<=57):=by unfold alnB;rw[zQ.2 hl,Bool.false_or]
 rw[e]at h
 repeat' split
 .rw [if_neg (by rw[decide_eq_true_iff];omega)]at h;exact h
 .rw [if_neg (by rw[decide_eq_true_iff];omega)]at h;exact h
 .rw [if_pos (by rw[decide_eq_true_iff];omega)]at h;exact h
namespace q67_
def sP{s:ByteArray}:C s (Agv s):=by
 obtain⟨r,h1,h2⟩:=nt s (fun r=>r=Agv s) (by
  unfold Agv;rw[Ad5,Bcb];cases hs:s.toList with
  |nil=>simp[Ac7]
  |cons b t=>
   rw[if_neg (by simp;omega)]
   split
   .rename_i hn;have hn:24<=t.length:=by simp at hn;omega
    simp[Ac7];omega
   .rename_i hn;have hn:t.length<24:=by simp at hn;omega
    refine⟨b,Aeu (by rw[hs];rfl),letB (u8i b),q40_.sP,?_⟩
    split
    .rename_i hb
     split
     .rename_i h0;simp[Ac7,Aob,h0]
     .rename_i h0;refine Akr (l:=s.toList) (p:=fun b=>alnB (u8i b)) (L:=fun i=>L1 s i fun r=>r=Ac7 (b::t)) (J:=fun r=>r=Ac7 (b::t)) ?_ ?_ ?_
      .intro h;apply K1;rw[Ad5,if_neg (by omega)];exact h
      .intro k c hc hk h;apply K1;rw[Ad5,if_pos (by omega)];have next:L1 s ((k+1:Nat):Int) (fun r=>r=Ac7 (b::t))->L2 s k fun r=>r=Ac7 (b::t):=fun h=>by
        apply K2;have hsl:s.toList.length=(b::t).length:=by rw[hs]
        simp at hsl;rw[Aa5 (by omega)];exact h
       refine⟨c,Aeu hc,_,q40_.sP,?_⟩
       split
       .rename_i hl;rw[if_pos (by unfold alnB;rw[hl];rfl)]at h;exact next h
       .rename_i hl;have h3:=Ayt (J:=fun r=>r=Ac7 (b::t)) (P:=L2 s k fun r=>r=Ac7 (b::t)) (by
         split
         .rename_i hh;rw[if_pos hh]at h;exact next h
         .rename_i hh;rw[if_neg hh]at h;exact h) hl
        refine⟨c,Aeu hc,?_⟩
        split
        .rename_i h4;rw[if_pos h4]at h3;exact h3
        .rename_i h4;rw[if_neg h4]at h3;exact⟨c,Aeu hc,h3⟩
      .rw [hs];have e:alnB (u8i b)=true:=by unfold alnB;rw[hb];rfl
       simp only[List.all_cons,e,yP,Ac7,hb,h0,decide_false,Bool.not_false,Bool.and_true];simp[hn]
    .rename_i hb
     simp[Ac7,hb])
 rw[<-h1];exact h2
end q67_
namespace q99_
def two{s:ByteArray}{i:Int}{J:Bool->Prop}{x:Int}(h:if letB x=true then L3 s i J else if i=0 then J false else if x<48 then J false else if 57<x then J false else L3 s i J):L2 s i x (letB x) J:=by
 apply K2;exact h
def sP{s:ByteArray}:C s (Agv s):=by
  obtain⟨r,h1,h2⟩:=nt s (fun r=>r=Agv s) (by
    unfold Agv;rw[Ad5,Bcb,Az1];cases hs:s.toList with
    |nil=>simp[Ac7]
    |cons b t=>
      rw[if_neg (by simp)]
      split
      · rename_i hn
        have hn:24 <= t.length:=by simp at hn;omega
        simp[Ac7];omega
      · rename_i hn
        have hn:t.length<24:=by simp at hn;omega
        have hlen:s.toList.length=t.length+1:=by rw[hs];rfl
        split
        · rename_i h0
          simp[Ac7,Aob,h0]
        · rename_i h0
          have body:∀(k:Nat) c,s.toList[k]?=some c -> (if letB (u8i c)=true then L1 s ((k+1:Nat):Int) (fun r=>r=Ac7 (b::t))else if(k:Int)=0 then false=Ac7 (b::t)else if(u8i c)<48 then false=Ac7 (b::t)else if 57<(u8i c)then false=Ac7 (b::t)else L1 s ((k+1:Nat):Int) (fun r=>r=Ac7 (b::t))) -> L1 s k (fun r=>r=Ac7 (b::t)):=by
            intro k c hc h;have hk:=(List.getElem?_eq_some_iff.1 hc).1;apply K1;rw[Ad5,if_pos (by omega)];refine⟨c,Aeu hc,?_⟩;have next:L1 s ((k+1:Nat):Int) (fun r=>r=Ac7 (b::t)) -> L3 s k fun r=>r=Ac7 (b::t):=fun h=>by
              apply K3;rw[Aa5 (by omega)];exact h
            have key:L2 s k (u8i c) (letB (u8i c)) fun r=>r=Ac7 (b::t):=by
              apply two
              split
              · rename_i hh;rw[if_pos hh]at h;exact next h
              · rename_i hh;rw[if_neg hh]at h
                split
                · rename_i h2;rw[if_pos h2]at h;exact h
                · rename_i h2;rw[if_neg h2]at h
                  split
                  · rename_i h3;rw[if_pos h3]at h;exact h
                  · rename_i h3;rw[if_neg h3]at h
                    split
                    · rename_i h4;rw[if_pos h4]at h;exact h
                    · rename_i h4;rw[if_neg h4]at h;exact next h
            have e:∀v,v=letB (u8i c) -> L2 s k (u8i c) v fun r=>r=Ac7 (b::t):=by rintro _ rfl;exact key
            repeat' split
            all_goals apply e
            all_goals unfold letB
            all_goals first
              |(symm;rw[decide_eq_true_iff];omega)
              | (by_cases h : u8i c = 95
                 · simp[h]
                 · have:(u8i c==95)=false:=by simpa using h
                   rw[this];symm;rw[decide_eq_false_iff_not];omega)
          have h0s:s.toList[0]?=some b:=by rw[hs];rfl
          refine body 0 b h0s ?_
          split
          · rename_i hb
            have rest:=Akr (l:=t) (p:=fun b=>alnB (u8i b)) (L:=fun i=>L1 s (i+1) fun r=>r=Ac7 (b::t)) (J:=fun r=>r=Ac7 (b::t)) ?_ ?_ ?_
            · simpa using rest
            · intro h
              apply K1;rw[Ad5,if_neg (by omega)];exact h
            · intro k c hc hk h
              have e1:((k:Nat):Int)+1=((k+1:Nat):Int):=by omega
              rw[e1];refine body (k+1) c (by rw[hs];simpa using hc) ?_
              split
              · rename_i hl
                rw[if_pos (by unfold alnB;rw[hl];rfl)]at h;exact h
              · rename_i hl
                rw[if_neg (by omega)];exact Ayt (J:=fun r=>r=Ac7 (b::t)) h hl
            · simp[Ac7,hb,h0,hn]
          · rename_i hb
            simp[Ac7,hb])
  rw[<-h1];exact h2
end q99_
def eqS(x a:ByteArray):Bool:=decide (a=x)
def Aj4:List ByteArray->List ByteArray->Bool
 |_,[]=>true
 |pre,a::r=>Agv a&&!pre.any (eqS a)&&Aj4 (pre++[a]) r
def Aey(l:List ByteArray):Bool:=Aj4 [] l
namespace q17_
def sP{l:List ByteArray}{x:ByteArray}(hn:l.length<Big):C l x (ixI (eqS x) l):=by
 obtain⟨r,h1,h2⟩:=nt l x (fun r=>r=ixI (eqS x) l) (by
  refine Akb (l:=l) (p:=eqS x) (L:=fun i=>L1 l x i _) (J:=fun r=>r=ixI (eqS x) l) ?_ ?_ rfl
  .intro h;apply K1;rw[if_neg (by omega)];exact h
  .intro k a ha hk h;apply K1;rw[if_pos (by omega)];refine⟨a,Ab6 ha,?_⟩;rw[Aa5 (by unfold Big at hn;omega)]
   split
   .rename_i hh;rw[if_pos (by simp[eqS,Aks.1 hh])]at h;exact h
   .rename_i hh;rw[if_neg (by simp only[eqS,decide_eq_true_eq];rintro rfl;exact hh rfl)]at h;exact h)
 rw[<-h1];exact h2
end q17_
def q15_.sP{l:List ByteArray}{x:ByteArray}(hn:l.length<Big):q15_.C l x (l.any (eqS x)):=by
 obtain⟨r,h1,h2⟩:=q15_.nt l x (fun r=>r=l.any (eqS x)) ⟨_,q17_.sP hn,by rw[Ar4]⟩;rw[<-h1];exact h2
namespace q68_
def sP{l:List ByteArray}{x:ByteArray}(hn:l.length<Big):C l x (ixI (eqS x) l):=by
 obtain⟨r,h1,h2⟩:=nt l x (fun r=>r=ixI (eqS x) l) (by
  refine Akb (l:=l) (p:=eqS x) (L:=fun i=>L1 l x i _) (J:=fun r=>r=ixI (eqS x) l) ?_ ?_ rfl
  .intro h;apply K1;rw[if_neg (by omega)];exact h
  .intro k a ha hk h;apply K1;rw[if_pos (by omega)];refine⟨a,Ab6 ha,?_⟩;rw[Aa5 (by unfold Big at hn;omega)]
   split
   .rename_i hh;rw[if_pos (by simp[eqS,Aks.1 hh])]at h;exact h
   .rename_i hh;rw[if_neg (by simp only[eqS,decide_eq_true_eq];rintro rfl;exact hh rfl)]at h;exact h)
 rw[<-h1];exact h2
end q68_
def Auj{l:List ByteArray}{L:Int -> Prop}{P Q:Prop}(stop:P -> L (l.length:Int))
    (step:∀(k:Nat) a,l[k]?=some a -> k<l.length -> (if Agv a=true then(if(l.take k).any (eqS a)=true then Q else L ((k+1:Nat):Int))else Q) -> L k) (h:Aey l=true -> P) (h':Aey l=false -> Q):L 0:=by
  have:∀(r:List ByteArray)(k:Nat),l.drop k=r -> k <= l.length -> (Aj4 (l.take k) r=true -> P) -> (Aj4 (l.take k) r=false -> Q) -> L k:=by
    intro r
    induction r with
    | nil => intro k hd hk h h'; have : k = l.length := by have := Aap hd; omega
             subst this;exact stop (h rfl)
    |cons a r ih=>
      intro k hd hk h h';have hlt:=Aaq hd;refine step k a (Aab hd) hlt ?_;have hn:=ih (k+1) (Aa8 hd) hlt;have e:l.take (k+1)=l.take k++[a]:=by rw[zX,Aab hd];rfl
      rw[e]at hn;simp only[Aj4]at h h'
      split
      · rename_i h1
        split
        · rename_i h2
          exact h' (by simp[h1,h2])
        · rename_i h2
          have h2:=zQ.2 h2;exact hn (fun hh=>h (by simp[h1,h2,hh])) (fun hh=>h' (by simp[h1,h2,hh]))
      · rename_i h1
        have h1:=zQ.2 h1;exact h' (by simp[h1])
  exact this l 0 rfl (zU _) h h'
def q49_.sP{l:List ByteArray}(hn:l.length<Big):q49_.C l (Aey l):=by
 obtain⟨r,h1,h2⟩:=q49_.nt l (fun r=>r=Aey l) (by
  refine Auj (l:=l) (L:=fun i=>q49_.L1 l i _) (P:=true=Aey l) (Q:=false=Aey l) ?_ ?_ Eq.symm Eq.symm
  .intro h;apply q49_.K1;rw[if_neg (by omega)];exact h
  .intro k a ha hk h;apply q49_.K1;rw[if_pos (by omega)];refine⟨a,Ab6 ha,_,q67_.sP,?_⟩
   split
   .rename_i h1;rw[if_pos h1]at h;refine⟨by omega,by omega,_,q68_.sP (by rw[zM];omega),?_⟩;rw[zI,Nat.sub_zero,Aa5 (by unfold Big at hn;omega)];have e:(0<=ixI (eqS a) (l.take k))↔(l.take k).any (eqS a)=true:=by rw[<-Ar4,decide_eq_true_iff]
    split
    .rename_i h2;rw[if_pos (e.1 h2)]at h;exact h
    .rename_i h2;rw[if_neg (fun hh=>h2 (e.2 hh))]at h;exact h
   .rename_i h1;rw[if_neg h1]at h;exact h)
 rw[<-h1];exact h2
def Ab2(v:api_Value):Bool:=decide (v.Kind=0/\v.Num=0/\v.Str.toList=[]∨v.Kind=1/\v.Str.toList=[]∨v.Kind=2/\v.Num=0/\v.Str.toList.length<=200∨v.Kind=3/\1<=v.Num/\v.Str.toList=[])
def Av4{v:api_Value}{J:Bool -> Prop}(h:J (Ab2 v)):(if v.Kind=0 then(if v.Num=0 then J (v.Str.toList==(⟨#[]⟩:ByteArray).toList)else J false)else(if v.Kind=1 then J (v.Str.toList==(⟨#[]⟩:ByteArray).toList)else(if v.Kind=2 then(if v.Num=0 then J (decide ((Ads v.Str) <= 200))else J false)else(if v.Kind=3 then(if 1 <= v.Num then J (v.Str.toList==(⟨#[]⟩:ByteArray).toList)else J false)else J false)))):=by
  have e:∀b,b=Ab2 v -> J b:=by rintro _ rfl;exact h
  have e0:(v.Str.toList==(⟨#[]⟩:ByteArray).toList)=decide (v.Str.toList=[]):=by
    rw[Az1];by_cases h:v.Str.toList=[]
    · simp[h]
    · simp[h]
  rw[e0,Ad5]
  repeat' split
  all_goals apply e
  all_goals unfold Ab2
  all_goals first
    |(rw[decide_eq_decide];omega)
    |(symm;rw[decide_eq_false_iff_not];omega)
    | (rw [decide_eq_decide]; constructor
       · intro h;simp_all
       · intro h;simp_all)
def q108_.sP{v:api_Value}:q108_.C v (Ab2 v):=by
 obtain⟨r,h1,h2⟩:=q108_.nt v (fun r=>r=Ab2 v) (Av4 (J:=fun r=>r=Ab2 v) rfl);rw[<-h1];exact h2
def q48_.sP{v:api_Value}:q48_.C v (Ab2 v):=by
 obtain⟨r,h1,h2⟩:=q48_.nt v (fun r=>r=Ab2 v) (Av4 (J:=fun r=>r=Ab2 v) rfl);rw[<-h1];exact h2
def Adt(l:List api_Value):Bool:=l.all Ab2
def q27_.sP{v:api_Value}:q27_.C v (!Ab2 v):=by
 obtain⟨r,h1,h2⟩:=q27_.nt v (fun r=>r=!Ab2 v) ⟨_,q108_.sP,rfl⟩;rw[<-h1];exact h2
namespace q1_
def sP{l:List api_Value}(hn:l.length<Big):C l (ixI (fun v=>!Ab2 v) l):=by
 obtain⟨r,h1,h2⟩:=nt l (fun r=>r=ixI (fun v=>!Ab2 v) l) (by
  refine Akb (l:=l) (p:=fun v=>!Ab2 v) (L:=fun i=>L1 l i _) (J:=fun r=>r=ixI (fun v=>!Ab2 v) l) ?_ ?_ rfl
  .intro h;apply K1;rw[if_neg (by omega)];exact h
  .intro k a ha hk h;apply K1;rw[if_pos (by omega)];refine⟨a,Ab6 ha,_,q27_.sP,?_⟩;rw[Aa5 (by unfold Big at hn;omega)]
   exact h)
 rw[<-h1];exact h2
end q1_
def q0_.sP{l:List api_Value}(hn:l.length<Big):q0_.C l (!Adt l):=by
 obtain⟨r,h1,h2⟩:=q0_.nt l (fun r=>r=!Adt l) ⟨_,q1_.sP hn,by
  rw[Ar4];unfold Adt;rw[List.any_eq_not_all_not];simp⟩
 rw[<-h1];exact h2
def q38_.sP{l:List api_Value}(hn:l.length<Big):q38_.C l (Adt l):=by
 obtain⟨r,h1,h2⟩:=q38_.nt l (fun r=>r=Adt l) ⟨_,q0_.sP hn,by
  show(!(!Adt l))=_
  rw[Bool.not_not]⟩
 rw[<-h1];exact h2
def q39_.sP{l:List api_Value}(hn:l.length<Big):q39_.C l (Adt l):=by
 obtain⟨r,h1,h2⟩:=q39_.nt l (fun r=>r=Adt l) (by
  refine Akr (l:=l) (p:=Ab2) (L:=fun i=>q39_.L1 l i _) (J:=fun r=>r=Adt l) ?_ ?_ rfl
  .intro h;apply q39_.K1;rw[if_neg (by omega)];exact h
  .intro k a ha hk h;apply q39_.K1;rw[if_pos (by omega)];refine⟨a,Ab6 ha,_,q48_.sP,?_⟩;rw[Aa5 (by unfold Big at hn;omega)]
   exact h)
 rw[<-h1];exact h2
def Aem(n:Nat):Int->List api_Row->Int
 |_,[]=>0
 |last,r::rs=>if r.ID<=last then 1 else if r.Values.length=n then(if Adt r.Values=true then Aem n r.ID rs else 1)else 6
def Acf(t:api_Table):Int:=if Agv t.Name=true then(if 16<t.Attrs.length then 3 else if 1000<t.Rows.length then 3 else if Aey t.Attrs=true then Aem t.Attrs.length 0 t.Rows else 1)else 1
def Axq{n:Nat}{l:List api_Row}{L:Int -> Int -> Prop}{J:Int -> Prop}(stop:∀last,J 0 -> L last (l.length:Int))
    (step:∀(k:Nat) r last,l[k]?=some r -> k<l.length -> (if r.ID <= last then J 1 else if r.Values.length=n then(if Adt r.Values=true then L r.ID ((k+1:Nat):Int)else J 1)else J 6) -> L last k) (h:J (Aem n 0 l)):L 0 0:=by
  have:∀(r:List api_Row)(k:Nat)(last:Int),l.drop k=r -> k <= l.length -> J (Aem n last r) -> L last k:=by
    intro r
    induction r with
    | nil => intro k last hd hk h; have : k = l.length := by have := Aap hd; omega
             subst this;exact stop _ h
    |cons a r ih=>
      intro k last hd hk h;have hlt:=Aaq hd;refine step k a last (Aab hd) hlt ?_;simp only[Aem]at h
      split
      · rename_i h1;rw[if_pos h1]at h;exact h
      · rename_i h1;rw[if_neg h1]at h
        split
        · rename_i h2;rw[if_pos h2]at h
          split
          · rename_i h3;rw[if_pos h3]at h;exact ih (k+1) _ (Aa8 hd) hlt h
          · rename_i h3;rw[if_neg h3]at h;exact h
        · rename_i h2;rw[if_neg h2]at h;exact h
  exact this l 0 0 rfl (zU _) h
namespace q109_
def rows{t:api_Table}{J:Int->Prop}(hr:t.Rows.length<=1000)(ha:t.Attrs.length<=16)(h:J (Aem t.Attrs.length 0 t.Rows)):L2 t 0 0 J:=by
 refine Axq (n:=t.Attrs.length) (l:=t.Rows) (L:=fun last i=>L2 t last i J) (J:=J) ?_ ?_ h
 .intro last h;apply K2;rw[if_neg (by omega)];exact h
 .intro k r last hr hk h;apply K2;rw[if_pos (by omega)];refine⟨r,Ab6 hr,?_⟩
  split
  .rename_i h1;rw[if_pos h1]at h;exact h
  .rename_i h1;rw[if_neg h1]at h
   split
   .rename_i h2;have h2:r.Values.length=t.Attrs.length:=by omega
    rw[if_pos h2]at h;refine⟨_,q38_.sP (by unfold Big;omega),?_⟩;rw[Aa5 (by omega)];exact h
   .rename_i h2;rw[if_neg (by omega)]at h;exact h
def sP{t:api_Table}:C t (Acf t):=by
 obtain⟨r,h1,h2⟩:=nt t (fun r=>r=Acf t) (by
  refine⟨_,q99_.sP,?_⟩;unfold Acf
  split
  .by_cases h1:16<t.Attrs.length
   .rw [if_pos (by omega),if_pos h1]
   .rw [if_neg (by omega),if_neg h1];by_cases h2:1000<t.Rows.length
    .rw [if_pos (by omega),if_pos h2]
    .rw [if_neg (by omega),if_neg h2];refine Auj (l:=t.Attrs) (L:=fun i=>L1 t i _) (P:=Aem t.Attrs.length 0 t.Rows=if Aey t.Attrs=true then Aem t.Attrs.length 0 t.Rows else 1) (Q:=(1:Int)=if Aey t.Attrs=true then Aem t.Attrs.length 0 t.Rows else 1) ?_ ?_ ?_ ?_
     .intro h;apply K1;rw[if_neg (by omega)];exact rows (J:=fun r=>r=if Aey t.Attrs=true then Aem t.Attrs.length 0 t.Rows else 1) (by omega) (by omega) h
     .intro k a ha hk h;apply K1;rw[if_pos (by omega)];refine⟨a,Ab6 ha,_,q99_.sP,?_⟩
      split
      .rename_i h1;rw[if_pos h1]at h;refine⟨by omega,by omega,_,q15_.sP (by rw[zM];unfold Big;omega),?_⟩;rw[zI,Nat.sub_zero,Aa5 (by omega)];exact h
      .rename_i h1;rw[if_neg h1]at h;exact h
     .intro h;rw[if_pos h]
     .intro h;rw[if_neg (by rw[h];decide)]
  .rfl)
 rw[<-h1];exact h2
end q109_
namespace q50_
def rows{t:api_Table}{J:Int->Prop}(hr:t.Rows.length<=1000)(ha:t.Attrs.length<=16)(h:J (Aem t.Attrs.length 0 t.Rows)):L1 t 0 0 J:=by
 refine Axq (n:=t.Attrs.length) (l:=t.Rows) (L:=fun last i=>L1 t last i J) (J:=J) ?_ ?_ h
 .intro last h;apply K1;rw[if_neg (by omega)];exact h
 .intro k r last hr hk h;apply K1;rw[if_pos (by omega)];refine⟨r,Ab6 hr,?_⟩
  split
  .rename_i h1;rw[if_pos h1]at h;exact h
  .rename_i h1;rw[if_neg h1]at h
   split
   .rename_i h2;have h2:r.Values.length=t.Attrs.length:=by omega
    rw[if_pos h2]at h;refine⟨_,q39_.sP (by unfold Big;omega),?_⟩;rw[Aa5 (by omega)];exact h
   .rename_i h2;rw[if_neg (by omega)]at h;exact h
def sP{t:api_Table}:C t (Acf t):=by
 obtain⟨r,h1,h2⟩:=nt t (fun r=>r=Acf t) (by
  refine⟨_,q67_.sP,?_⟩;unfold Acf
  split
  .by_cases h1:16<t.Attrs.length
   .rw [if_pos (by omega),if_pos h1]
   .rw [if_neg (by omega),if_neg h1];by_cases h2:1000<t.Rows.length
    .rw [if_pos (by omega),if_pos h2]
    .rw [if_neg (by omega),if_neg h2];refine⟨_,q49_.sP (by unfold Big;omega),?_⟩
     split
     .exact rows (J:=fun r=>r=Aem t.Attrs.length 0 t.Rows) (by omega) (by omega) rfl
     .rfl
  .rfl)
 rw[<-h1];exact h2
end q50_
namespace q69_
def loop{J:List Int->Prop}:∀(n:Nat)(acc:List Int),n<2^32->acc.length+(Aal n).length<=1000->J (acc++(Aal n).map fun(i:Nat)=>(i:Int))->L1 n acc J:=by
 intro n
 induction n using Nat.strongRecOn with
 |_ n ih=>
  intro acc hn hl h;apply K1;by_cases h0:n=0
  .subst h0;rw[Bbd]at h;rw[if_pos (by omega)];simpa using h
  .rw [if_neg (by omega)];rw[Bbc h0 hn]at hl h;simp only[zB]at hl;refine⟨by omega,by omega,?_⟩;have e1:IntKind.wrap .u32 ((n:Int)-1)=((n-1:Nat):Int):=by
    have:(n:Int)-1=((n-1:Nat):Int):=by omega
    rw[this];exact Ae0 (k:=.u32) (by simp only[top];omega)
   rw[e1,Adv (k:=.u32) (by simpa[top]using hn) (by simp only[top];omega)];refine ih _ (Bhg h0) _ (zK Nat.and_le_left hn) (by rw[zO,List.length_singleton];omega) ?_;have e2:tz32 (n:Int)=((Ad0 n 32 0:Nat):Int):=by unfold tz32;rw[zI]
   rw[e2];simpa using h
def sP{n:Nat}(hn:n<2^32):C n ((Aal n).map fun(i:Nat)=>(i:Int)):=by
 obtain⟨r,h1,h2⟩:=nt n (fun r=>r=(Aal n).map fun(i:Nat)=>(i:Int)) (loop n [] hn (by have:=Afd (n:=n);simp;omega) (by simp));rw[<-h1];exact h2
end q69_
namespace q70_
def loop{k:Nat}{J:Int->Prop}(h:J (Adh k)):∀(m i:Nat),i+m=min k 32->L1 k ((2^i-1:Nat):Int) i J
 |0,i,hi=>by
  apply K1;have e:((2^i-1:Nat):Int)=(Adh k:Int):=by unfold Adh;rw[<-hi,Nat.add_zero]
  rw[e]
  split
  .rw [if_neg (by omega)];exact h
  .exact h
 |m+1,i,hi=>by
  apply K1;rw[if_pos (by omega),if_pos (by omega)];refine⟨by omega,?_⟩;have hp:2^(i+1)<=2^32:=zL (by decide) (by omega);have h2:0<2^i:=yR (by simp);rw[Nat.pow_succ]at hp;rw[Asz (k:=.u32) (by simp only[top];omega),Ae7 (k:=.u32) (by simp only[top];omega) (by simp only[top];omega),Aa5 (by omega)];have e:(2^i-1) ||| 2^i=2^(i+1)-1:=by
   apply Nat.eq_of_testBit_eq;intro j;rw[Nat.testBit_or,yC,Nat.testBit_two_pow,yC];by_cases h1:j<i
   .have:j<i+1:=by omega
    simp[h1,this]
   .by_cases h3:i=j
    .subst h3;simp
    .have:¬j<i+1:=by omega
     simp[h1,h3,this]
  rw[e];exact loop h m (i+1) (by omega)
def sP{k:Nat}:C k (Adh k):=by
 obtain⟨r,h1,h2⟩:=nt k (fun r=>r=(Adh k:Int)) (loop (J:=fun r=>r=(Adh k:Int)) rfl (min k 32) 0 (by omega));rw[<-h1];exact h2
end q70_
namespace q83_
def sP{n i:Nat}(hn:n<2^32):C n i (n.testBit i):=by
 obtain⟨r,h1,h2⟩:=nt n i (fun r=>r=n.testBit i) (by
  rw[if_pos (by omega)]
  split
  .refine ⟨by omega,?_⟩;rw[Bca (k:=.u32) (by simpa[top]using hn) (by decide)];cases n.testBit i<;>rfl
  .rw [yK (zP hn (zL (by decide) (by omega)))])
 rw[<-h1];exact h2
end q83_
end Go.Own

namespace Go.Own
def Ajn{a b:Int}:cmpI a b=0↔a=b:=by
 unfold cmpI;repeat' split
 all_goals omega
def q71_.sP{a b:Int}:q71_.C a b (cmpI a b):=by
 obtain⟨r,h1,h2⟩:=q71_.nt a b (fun r=>r=cmpI a b) (by
  unfold cmpI;repeat' split
  all_goals first|rfl|omega)
 rw[<-h1];exact h2
def cmpL:List UInt8->List UInt8->Int
 |[],[]=>0
 |[],_::_=>-1
 |_::_,[]=>1
 |a::r,b::s=>if a=b then cmpL r s else cmpI (u8i a) (u8i b)
def Awl:∀{a b:List UInt8},cmpL a b=0↔a=b
 |[],[]=>by simp[cmpL]
 |[],_::_=>by simp[cmpL]
 |_::_,[]=>by simp[cmpL]
 |a::r,b::s=>by
  simp only[cmpL]
  split
  .rename_i h;subst h;rw[Awl];simp
  .rename_i h;rw[Ajn,Anh];simp[h]
def cmpS(a b:ByteArray):Int:=cmpL a.toList b.toList
def Bhi:∀{a b:List UInt8},(a=[]∨b=[])->cmpI a.length b.length=cmpL a b
 |[],[],_=>rfl
 |[],_::r,_=>by
  simp only[cmpL,cmpI,zB,zV];rw[if_pos (by omega)]
 |_::r,[],_=>by
  simp only[cmpL,cmpI,zB,zV];rw[if_neg (by omega),if_pos (by omega)]
 |_::_,_::_,h=>by simp at h
namespace q31_
def loop{a b:ByteArray}{J:Int->Prop}(hn:a.toList.length<Big):∀(r s:List UInt8)(k:Nat),a.toList.drop k=r->b.toList.drop k=s->k<=a.toList.length->k<=b.toList.length->J (cmpL r s)->L1 a b k J:=by
 have fin:∀(r s:List UInt8)(k:Nat),a.toList.drop k=r->b.toList.drop k=s->k<=a.toList.length->k<=b.toList.length->(r=[]∨s=[])->J (cmpL r s)->L2 a b J:=by
  intro r s k hr hs hk hk2 h0 h;apply K2;refine⟨_,q71_.sP,?_⟩;rw[Ad5,Ad5];have e:cmpI a.toList.length b.toList.length=cmpI r.length s.length:=by
   rw[<-hr,<-hs,zZ,zZ];unfold cmpI
   repeat' split
   all_goals omega
  rw[e,Bhi h0];exact h
 intro r
 induction r with
 |nil=>
  intro s k hr hs hk hk2 h;apply K1;have:=Aap hr;rw[Ad5,if_neg (by omega)];exact fin _ _ k hr hs hk hk2 (.inl rfl) h
 |cons x r ih=>
  intro s k hr hs hk hk2 h;apply K1;have hlt:=Aaq hr;rw[Ad5,if_pos (by omega),Ad5]
  match s,hs,h with
  |[],hs,h=>
   have:=Aap hs;rw[if_neg (by omega)];exact fin _ _ k hr hs hk hk2 (.inr rfl) h
  |y::s,hs,h=>
   have hlt2:=Aaq hs;rw[if_pos (by omega)];refine⟨x,Aeu (Aab hr),y,Aeu (Aab hs),?_⟩;simp only[cmpL]at h
   split
   .rename_i he;rw[if_pos (Anh.1 he)]at h;rw[Aa5 (by unfold Big at hn;omega)];exact ih s (k+1) (Aa8 hr) (Aa8 hs) hlt hlt2 h
   .rename_i he;rw[if_neg (fun hh=>he (Anh.2 hh))]at h;refine⟨x,Aeu (Aab hr),y,Aeu (Aab hs),_,q71_.sP,?_⟩;have b1:=Bay (b:=x);have b2:=Bay (b:=y);rw[Af4 (by omega) (by omega),Af4 (by omega) (by omega)];exact h
def sP{a b:ByteArray}(hn:a.toList.length<Big):C a b (cmpS a b):=by
 obtain⟨r,h1,h2⟩:=nt a b (fun r=>r=cmpS a b) (loop hn a.toList b.toList 0 rfl rfl (by omega) (by omega) rfl);rw[<-h1];exact h2
end q31_
def cmpV(v w:api_Value):Int:=if cmpI v.Kind w.Kind=0 then(if cmpI v.Num w.Num=0 then cmpS v.Str w.Str else cmpI v.Num w.Num)else cmpI v.Kind w.Kind
def Awm{v w:api_Value}:cmpV v w=0↔v=w:=by
 obtain⟨k,n,s⟩:=v;obtain⟨k',n',s'⟩:=w;unfold cmpV cmpS;simp only[api_Value.mk.injEq]
 split
 .rename_i h1;rw[Ajn]at h1
  split
  .rename_i h2;rw[Ajn]at h2;rw[Awl,Aks];simp[h1,h2]
  .rename_i h2;have h3:=h2;rw[Ajn]at h3;simp[h2,h3]
 .rename_i h1;have h3:=h1;rw[Ajn]at h3;simp[h1,h3]
def q32_.sP{v w:api_Value}(hn:v.Str.toList.length<Big):q32_.C v w (cmpV v w):=by
 obtain⟨r,h1,h2⟩:=q32_.nt v w (fun r=>r=cmpV v w) (by
  refine⟨_,q71_.sP,?_⟩;unfold cmpV
  split
  .refine ⟨_,q71_.sP,?_⟩
   split
   .exact ⟨_,q31_.sP hn,rfl⟩
   .rfl
  .rfl)
 rw[<-h1];exact h2
def Bd3(l:List api_Value):Prop:=l.length<Big/\∀v∈l,v.Str.toList.length<Big
def Aff:List api_Value->List api_Value->Int
 |[],[]=>0
 |[],_::_=>-1
 |_::_,[]=>1
 |a::r,b::s=>if cmpV a b=0 then Aff r s else cmpV a b
def Anv:∀{a b:List api_Value},Aff a b=0↔a=b
 |[],[]=>by simp[Aff]
 |[],_::_=>by simp[Aff]
 |_::_,[]=>by simp[Aff]
 |a::r,b::s=>by
  simp only[Aff]
  split
  .rename_i h;rw[Anv];rw[Awm]at h;simp[h]
  .rename_i h;have h2:=h;rw[Awm]at h2;simp[h,h2]
def Bfc:∀{a b:List api_Value},(a=[]∨b=[])->cmpI a.length b.length=Aff a b
 |[],[],_=>rfl
 |[],_::r,_=>by
  simp only[Aff,cmpI,zB,zV];rw[if_pos (by omega)]
 |_::r,[],_=>by
  simp only[Aff,cmpI,zB,zV];rw[if_neg (by omega),if_pos (by omega)]
 |_::_,_::_,h=>by simp at h
namespace q51_
def loop{a b:List api_Value}{J:Int->Prop}(hn:Bd3 a):∀(r s:List api_Value)(k:Nat),a.drop k=r->b.drop k=s->k<=a.length->k<=b.length->J (Aff r s)->L1 a b k J:=by
 have fin:∀(r s:List api_Value)(k:Nat),a.drop k=r->b.drop k=s->k<=a.length->k<=b.length->(r=[]∨s=[])->J (Aff r s)->L2 a b J:=by
  intro r s k hr hs hk hk2 h0 h;apply K2;refine⟨_,q71_.sP,?_⟩;have e:cmpI a.length b.length=cmpI r.length s.length:=by
   rw[<-hr,<-hs,zZ,zZ];unfold cmpI
   repeat' split
   all_goals omega
  rw[e,Bfc h0];exact h
 intro r
 induction r with
 |nil=>
  intro s k hr hs hk hk2 h;apply K1;have:=Aap hr;rw[if_neg (by omega)];exact fin _ _ k hr hs hk hk2 (.inl rfl) h
 |cons x r ih=>
  intro s k hr hs hk hk2 h;apply K1;have hlt:=Aaq hr;rw[if_pos (by omega)]
  match s,hs,h with
  |[],hs,h=>
   have:=Aap hs;rw[if_neg (by omega)];exact fin _ _ k hr hs hk hk2 (.inr rfl) h
  |y::s,hs,h=>
   have hlt2:=Aaq hs;rw[if_pos (by omega)];refine⟨x,Ab9 hr,y,Ab9 hs,_,q32_.sP (hn.2 x (zC (Aab hr))),?_⟩;simp only[Aff]at h
   split
   .rename_i he;rw[if_pos he]at h;rw[Aa5 (by have:=hn.1;unfold Big at this;omega)];exact ih s (k+1) (Aa8 hr) (Aa8 hs) hlt hlt2 h
   .rename_i he;rw[if_neg he]at h;exact h
def sP{a b:List api_Value}(hn:Bd3 a):C a b (Aff a b):=by
 obtain⟨r,h1,h2⟩:=nt a b (fun r=>r=Aff a b) (loop hn a b 0 rfl rfl (by omega) (by omega) rfl);rw[<-h1];exact h2
end q51_
def q72_.sP{a b:List api_Value}(hn:Bd3 a):q72_.C a b (decide (a=b)):=by
 obtain⟨r,h1,h2⟩:=q72_.nt a b (fun r=>r=decide (a=b)) ⟨_,q51_.sP hn,by
  by_cases h:a=b
  .simp [h,Anv.2 rfl]
  .have:Aff a b≠0:=fun hh=>h (Anv.1 hh)
   simp[h,this]⟩
 rw[<-h1];exact h2
def be:Nat->Nat->List Int
 |0,_=>[]
 |j+1,u=>((u / 2^(8*j)%256:Nat):Int)::be j u
def Atg:∀{j u},(be j u).length=j
 |0,_=>rfl
 |j+1,u=>by simp[be,Atg]
def Ayz:∀{j u},∀x∈be j u,0<=x/\x<256
 |0,_,_,h=>by simp[be]at h
 |j+1,u,x,h=>by
  simp only[be,zT]at h;rcases h with rfl|h
  .omega
  .exact Ayz x h
def Bf2:∀{j u v},be j u=be j v->u%2^(8*j)=v%2^(8*j)
 |0,u,v,_=>by simp[Nat.mod_one]
 |j+1,u,v,h=>by
  simp only[be,zE]at h;have ih:=Bf2 h.2;have e:2^(8*(j+1))=2^(8*j)*256:=by rw[Nat.mul_add,Nat.pow_add]
  rw[e,Nat.mod_mul,Nat.mod_mul,ih];have:u / 2^(8*j)%256=v / 2^(8*j)%256:=by omega
  rw[this]
def Ai7(n:Int):Nat:=(n%18446744073709551616).toNat ^^^ 9223372036854775808
def App{n:Int}:Ai7 n<2^64:=Nat.xor_lt_two_pow (by omega) (by decide)
def Bdl{m n:Int}(hm : -9223372036854775808<=m/\m<9223372036854775808)(hn : -9223372036854775808<=n/\n<9223372036854775808)(h:Ai7 m=Ai7 n):m=n:=by
 unfold Ai7 at h;have h2:(m%18446744073709551616).toNat=(n%18446744073709551616).toNat:=by
  have:=congrArg (· ^^^ 9223372036854775808) h;simpa[Nat.xor_assoc]using this
 omega
namespace q100_
def loop{J:List Int->Prop}{u:Nat}(hu:u<2^64):∀(j:Nat)(acc:List Int),j<=8->acc.length+j<=1000->J (acc++be j u)->L1 acc u (8*(j:Int)-8) J
 |0,acc,hj,hl,h=>by
  apply K1;rw[if_neg (by omega)];simpa[be]using h
 |j+1,acc,hj,hl,h=>by
  apply K1;rw[if_pos (by omega)];refine⟨by omega,by omega,?_⟩;have e1:8*((j+1:Nat):Int)-8=((8*j:Nat):Int):=by omega
  rw[e1,Adz (k:=.u64) (by simpa[top]using hu),IntKind.wrap_u8,Af4 (by omega) (by omega)];have e2:((8*j:Nat):Int)-8=8*(j:Int)-8:=by omega
  rw[e2];refine loop hu j _ (by omega) (by simp;omega) ?_;have e3:((u / 2^(8*j):Nat):Int)%256=((u / 2^(8*j)%256:Nat):Int):=by omega
  rw[e3];simpa[be]using h
def sP{n:Int}{acc:List Int}(hl:acc.length<=900):C n acc (acc++be 8 (Ai7 n)):=by
 obtain⟨r,h1,h2⟩:=nt n acc (fun r=>r=acc++be 8 (Ai7 n)) (by
  have e:bXor .u64 (IntKind.wrap .u64 n) 9223372036854775808=(Ai7 n:Int):=by
   have e1:IntKind.wrap .u64 n=(((n%18446744073709551616).toNat:Nat):Int):=by
    simp only[IntKind.wrap,IntKind.bits,IntKind.signed];simp;omega
   rw[e1];exact Ayx (k:=.u64) (b:=9223372036854775808) (by simp only[top];omega) (by simp only[top];omega)
  rw[e]
  exact loop App 8 acc (by omega) (by omega) rfl)
 rw[<-h1];exact h2
end q100_
def esc:List UInt8->List Int
 |[]=>[]
 |b::r=>if u8i b=0 then 0::255::esc r else u8i b::esc r
def Bhn{l:List UInt8}{b:UInt8}:esc (l++[b])=esc l++esc [b]:=by
 induction l with
 |nil=>rfl
 |cons a l ih=>simp only[zG,esc,ih];split<;>rfl
def Alz:∀{l:List UInt8},∀x∈esc l,0<=x/\x<256
 |[],x,h=>by simp[esc]at h
 |b::r,x,h=>by
  simp only[esc]at h
  split at h
  .simp only[zT]at h;rcases h with rfl|rfl|h
   .omega
   .omega
   .exact Alz x h
  .simp only[zT]at h;rcases h with rfl|h
   .exact Bay
   .exact Alz x h
def Ar2:∀{l:List UInt8},(esc l).length<=2*l.length
 |[]=>by simp[esc]
 |b::r=>by
  have:=Ar2 (l:=r);simp only[esc]
  split<;>simp only[zB]<;>omega
def Avk:∀{a b:List UInt8}{r s:List Int},esc a++(0::1::r)=esc b++(0::1::s)->a=b/\r=s
 |[],[],r,s,h=>by simpa[esc]using h
 |[],y::b,r,s,h=>by
  simp only[esc]at h
  split at h
  .simp at h
  .rename_i hy;simp only[yV,zG,zE]at h;exact absurd h.1.symm hy
 |x::a,[],r,s,h=>by
  simp only[esc]at h
  split at h
  .simp at h
  .rename_i hx;simp only[yV,zG,zE]at h;exact absurd h.1 hx
 |x::a,y::b,r,s,h=>by
  simp only[esc]at h
  split at h
  .rename_i hx
   split at h
   .rename_i hy;simp only[zG,zE,true_and]at h;obtain⟨h1,h2⟩:=Avk h;exact⟨by rw[h1,Anh.1 (hx.trans hy.symm)],h2⟩
   .rename_i hy;simp only[zG,zE]at h;exact absurd h.1.symm hy
  .rename_i hx
   split at h
   .rename_i hy;simp only[zG,zE]at h;exact absurd h.1 hx
   .rename_i hy;simp only[zG,zE]at h;obtain⟨h1,h2⟩:=Avk h.2;exact⟨by rw[h1,Anh.1 h.1],h2⟩
def keyJ(v:api_Value):List Int:=v.Kind::(if v.Kind=1∨v.Kind=3 then be 8 (Ai7 v.Num)else if v.Kind=2 then esc v.Str.toList++[0,1]else[])
def Ak5(v:api_Value):Prop:=-9223372036854775808<=v.Num/\v.Num<9223372036854775808
def Af3{v:api_Value}(h:Ab2 v=true):v.Kind=0/\v.Num=0/\v.Str.toList=[]∨v.Kind=1/\v.Str.toList=[]∨v.Kind=2/\v.Num=0/\v.Str.toList.length<=200∨v.Kind=3/\1<=v.Num/\v.Str.toList=[]:=by
 simpa[Ab2]using h
def Au7{v:api_Value}(h:Ab2 v=true):∀x∈keyJ v,0<=x/\x<256:=by
 intro x hx;have hk:0<=v.Kind/\v.Kind<=3:=by rcases Af3 h with h|h|h|h<;>omega
 simp only[keyJ,zT]at hx;rcases hx with rfl|hx
 .omega
 .split at hx
  .exact Ayz x hx
  .split at hx
   .rcases yH.1 hx with hx|hx
    .exact Alz x hx
    .simp at hx;rcases hx with rfl|rfl<;>omega
   .simp at hx
def Ao7{v:api_Value}(h:Ab2 v=true):(keyJ v).length<=403:=by
 simp only[keyJ,zB]
 split
 .rw [Atg];omega
 .split
  .have:=Ar2 (l:=v.Str.toList);have:v.Str.toList.length<=200:=by
    rcases Af3 h with h|h|h|h
    .rw [h.2.2];simp
    .rw [h.2];simp
    .exact h.2.2
    .rw [h.2.2];simp
   simp;omega
  .simp
def Bi2{v w:api_Value}{r s:List Int}(hv:Ab2 v=true)(hw:Ab2 w=true)(nv:Ak5 v)(nw:Ak5 w)(h:keyJ v++r=keyJ w++s):v=w/\r=s:=by
 obtain⟨k,n,t⟩:=v;obtain⟨k',n',t'⟩:=w;simp only[keyJ,zG,zE]at h;obtain⟨rfl,h⟩:=h;have hv:=Af3 hv;have hw:=Af3 hw;simp only at hv hw;simp only[api_Value.mk.injEq,true_and];by_cases h1:k=1∨k=3
 .rw [if_pos h1,if_pos h1]at h;have h3:=List.append_inj h (by rw[Atg,Atg]);have h2:=Bf2 h3.1;rw[yF App,yF App]at h2;have e:=Bdl nv nw h2;simp only at e;refine⟨⟨e,?_⟩,h3.2⟩;rw[<-Aks];have a1:t.toList=[]:=by rcases hv with h|h|h|h<;>first|exact h.2.2|exact h.2|omega
  have a2:t'.toList=[]:=by rcases hw with h|h|h|h<;>first|exact h.2.2|exact h.2|omega
  rw[a1,a2]
 .rw [if_neg h1,if_neg h1]at h;by_cases h2:k=2
  .rw [if_pos h2,if_pos h2,yT,yT]at h;obtain⟨e1,e2⟩:=Avk h;rw[Aks]at e1;exact⟨⟨by omega,e1⟩,e2⟩
  .rw [if_neg h2,if_neg h2]at h;have a1:t.toList=[]:=by rcases hv with h|h|h|h<;>first|exact h.2.2|exact h.2|omega
   have a2:t'.toList=[]:=by rcases hw with h|h|h|h<;>first|exact h.2.2|exact h.2|omega
   exact⟨⟨by omega,by rw[<-Aks,a1,a2]⟩,by simpa using h⟩
def keyW(v:api_Value):ByteArray:=Alv (keyJ v)
namespace q116_
def loop{v:api_Value}{J:ByteArray×Int->Prop}(hk:v.Kind=2)(hs:v.Str.toList.length<=200)(h:J (keyW v,0)):∀(r:List UInt8)(k:Nat),v.Str.toList.drop k=r->k<=v.Str.toList.length->L1 v (2::esc (v.Str.toList.take k)) k J:=by
 intro r
 induction r with
 |nil=>
  intro k hd hk2;apply K1;have:=Aap hd;rw[Ad5,if_neg (by omega),List.take_of_length_le this];have hl:=Ar2 (l:=v.Str.toList);have e:keyJ v=(2::esc v.Str.toList)++[0,1]:=by simp[keyJ,hk]
  refine⟨by simp only[zB];omega,fun x hx=>?_,?_⟩
  .rcases yH.1 hx with hx|hx
   .rcases zT.1 hx with rfl|hx
    .omega
    .exact Alz x hx
   .simp at hx;rcases hx with rfl|rfl<;>omega
  .rw [<-e];exact h
 |cons b r ih=>
  intro k hd hk2;have hlt:=Aaq hd;apply K1;rw[Ad5,if_pos (by omega)];have hl:=Ar2 (l:=v.Str.toList.take k);rw[zM]at hl;refine⟨b,Aeu (Aab hd),by simp only[zB];omega,b,Aeu (Aab hd),?_⟩;have ih:=ih (k+1) (Aa8 hd) hlt;have e:v.Str.toList.take (k+1)=v.Str.toList.take k++[b]:=by rw[zX,Aab hd];rfl
  rw[e,Bhn]at ih;have next:∀l,l=2::(esc (v.Str.toList.take k)++esc [b])->L4 v l k J:=by
   rintro _ rfl;apply K4;rw[Aa5 (by omega)];exact ih
  split
  .rename_i h0;refine⟨by simp only[zO,zB,zV];omega,next _ ?_⟩;simp[esc,h0]
  .rename_i h0;exact next _ (by simp[esc,h0])
def sP{v:api_Value}(hv:Ab2 v=true):C v (keyW v,0):=by
 obtain⟨r,h1,h2⟩:=nt v (fun r=>r=(keyW v,0)) (by
  refine⟨_,q108_.sP,?_⟩;rw[if_pos hv];have hc:=Af3 hv;have hk:0<=v.Kind/\v.Kind<=3:=by rcases hc with h|h|h|h<;>omega
  have ek:IntKind.wrap .u8 v.Kind=v.Kind:=by rw[IntKind.wrap_u8];omega
  have two:∀b,(v.Kind=1∨v.Kind=3)->L2 v b fun r=>r=(keyW v,0):=by
   intro b hb;apply K2;rw[ek];have e:keyJ v=[v.Kind]++be 8 (Ai7 v.Num):=by simp[keyJ,hb]
   refine⟨_,q100_.sP (by simp),?_,?_⟩
   .rw [<-e];exact Au7 hv
   .rw [<-e];rfl
  have three:¬(v.Kind=1∨v.Kind=3)->L3 v fun r=>r=(keyW v,0):=by
   intro hb;apply K3;rw[ek]
   split
   .rename_i h2;have hs:v.Str.toList.length<=200:=by
     rcases hc with h|h|h|h
     .omega
     .omega
     .exact h.2.2
     .omega
    have:=loop (J:=fun r=>r=(keyW v,0)) h2 hs rfl v.Str.toList 0 rfl (by omega);rw[h2];simpa[esc]using this
   .rename_i h2;refine⟨fun x hx=>by simp at hx;omega,?_⟩;simp[keyW,keyJ,hb,h2]
  split
  .rename_i h1;exact two _ (.inl h1)
  .rename_i h1
   split
   .rename_i h3;exact two _ (.inr h3)
   .rename_i h3;exact three (by omega))
 rw[<-h1];exact h2
end q116_
def b8(x:Int):UInt8:=UInt8.ofNat x.toNat
def Bm0{x y:Int}(hx:0<=x/\x<256)(hy:0<=y/\y<256)(h:b8 x=b8 y):x=y:=by
 unfold b8 at h;have:=congrArg UInt8.toNat h;simp at this;omega
def Aui:∀{l m:List Int},(∀x∈l,0<=x/\x<256)->(∀x∈m,0<=x/\x<256)->l.map b8=m.map b8->l=m
 |[],[],_,_,_=>rfl
 |[],_::_,_,_,h=>by simp at h
 |_::_,[],_,_,h=>by simp at h
 |x::l,y::m,h1,h2,h=>by
  simp only[List.map_cons,zE]at h;rw[Bm0 (h1 x (by simp)) (h2 y (by simp)) h.1,Aui (fun z hz=>h1 z (by simp[hz])) (fun z hz=>h2 z (by simp[hz])) h.2]
def Ax8{v:api_Value}:(keyW v).data.toList=(keyJ v).map b8:=by
 unfold keyW Alv b8;simp
def Ax9{v:api_Value}:(keyW v).size=(keyJ v).length:=by
 have:(keyW v).size=(keyW v).data.toList.length:=rfl;rw[this,Ax8,zF]
def Adj(l:List api_Value):List Int:=l.flatMap keyJ
def Arv{l:List api_Value}(h:∀v∈l,Ab2 v=true):∀x∈Adj l,0<=x/\x<256:=by
 intro x hx;obtain⟨v,hv,hx⟩:=List.mem_flatMap.1 hx;exact Au7 (h v hv) x hx
def Axa:∀{l m:List api_Value},l.length=m.length->(∀v∈l,Ab2 v=true/\Ak5 v)->(∀v∈m,Ab2 v=true/\Ak5 v)->Adj l=Adj m->l=m
 |[],[],_,_,_,_=>rfl
 |[],_::_,h,_,_,_=>by simp at h
 |_::_,[],h,_,_,_=>by simp at h
 |v::l,w::m,hl,h1,h2,h=>by
  simp only[Adj,yE]at h;have a:=h1 v (by simp);have b:=h2 w (by simp);obtain⟨e1,e2⟩:=Bi2 a.1 b.1 a.2 b.2 h;rw[e1,Axa (by simpa using hl) (fun z hz=>h1 z (by simp[hz])) (fun z hz=>h2 z (by simp[hz])) e2]
def Abf(l:List api_Value):ByteArray:=bstr ((Adj l).map b8)
def Apv{l m:List api_Value}(hl:l.length=m.length)(h1:∀v∈l,Ab2 v=true/\Ak5 v)(h2:∀v∈m,Ab2 v=true/\Ak5 v):Abf l=Abf m↔l=m:=by
 constructor
 .intro h;have h3:(Adj l).map b8=(Adj m).map b8:=by
   have:=congrArg ByteArray.toList h;unfold Abf at this
   rwa [Avf,Avf]at this
  exact Axa hl h1 h2 (Aui (Arv fun v hv=>(h1 v hv).1) (Arv fun v hv=>(h2 v hv).1) h3)
 .rintro rfl;rfl
def pick(l:List api_Value)(n:Nat):List api_Value:=(Aal n).filterMap fun i=>l[i]?
def Azk{O U:Type}{f g:O->Option U}:∀{l:List O},(∀a∈l,f a=g a)->l.filterMap f=l.filterMap g
 |[],_=>rfl
 |a::l,h=>by
  have ih:=Azk (l:=l) fun b hb=>h b (by simp[hb]);simp only[zN,h a (by simp),ih]
def Bf3{n k:Nat}(hn:n<2^32):(Aal n).filter (fun i=>decide (i<k+1))=(Aal n).filter (fun i=>decide (i<k))++if n.testBit k=true then[k]else[]:=by
 refine Av0 (Afm.filter _) ?_ fun x=>?_
 .rw [List.pairwise_append];refine⟨Afm.filter _,by split<;>simp,fun a ha b hb=>?_⟩;have ha:=(yW.1 ha).2
  split at hb
  .simp at hb ha;omega
  .simp at hb
 .simp only[yW,yH,decide_eq_true_eq]
  split
  .rename_i h;rw[List.mem_singleton];constructor
   .rintro ⟨h1,h2⟩;by_cases hx:x<k
    .exact .inl ⟨h1,hx⟩
    .exact .inr (by omega)
   .rintro (⟨h1,h2⟩|rfl)
    .exact ⟨h1,by omega⟩
    .exact ⟨(Abk hn).2 h,by omega⟩
  .rename_i h;constructor
   .rintro ⟨h1,h2⟩;have:x≠k:=fun e=>h (e ▸ (Abk hn).1 h1);exact .inl ⟨h1,by omega⟩
   .rintro (⟨h1,h2⟩|h1)
    .exact ⟨h1,by omega⟩
    .simp at h1
namespace q41_
def sP{r:api_Row}{n:Nat}(hn:n<2^32)(hr:r.Values.length<=1000):C r n (pick r.Values n):=by
 obtain⟨q,h1,h2⟩:=nt r n (fun q=>q=pick r.Values n) (by
  have loop:∀k,k<=r.Values.length->L1 r n (((Aal n).filter fun i=>decide (i<k)).filterMap fun i=>r.Values[i]?) k fun q=>q=pick r.Values n:=by
   refine down ?_ ?_
   .apply K1;rw[if_neg (by omega)];unfold pick;rw[List.filterMap_filter];refine Azk fun i hi=>?_;by_cases h:i<r.Values.length
    .simp [h]
    .simp [h]
   .intro k hk h;apply K1;rw[if_pos (by omega)];have hget:=zA hk;have hlen:(((Aal n).filter fun i=>decide (i<k)).filterMap fun i=>r.Values[i]?).length<=32:=
     yA (zW _ _) (yA (yL _ _) Afd)
    rw[Bf3 hn,yM]at h;refine⟨_,q83_.sP hn,?_⟩;have next:∀l,l=(((Aal n).filter fun i=>decide (i<k)).filterMap fun i=>r.Values[i]?)++((if n.testBit k=true then[k]else[]).filterMap fun i=>r.Values[i]?)->L2 r n l k fun q=>q=pick r.Values n:=by
     rintro _ rfl;apply K2;rw[Aa5 (by omega)];exact h
    split
    .rename_i hb;exact⟨r.Values[k],Ab6 hget,by omega,next _ (by simp[hb,hget])⟩
    .rename_i hb;exact next _ (by simp[hb])
  have:=loop 0 (zU _);have e:(Aal n).filter (fun i=>decide (i<0))=[]:=by rw[List.filter_eq_nil_iff];simp
  rw[e]at this
  exact this)
 rw[<-h1];exact h2
end q41_
def Afl(a b:List api_Value)(n:Nat):Bool:=decide (pick a n=pick b n)
def Bj5{a b:List api_Value}(hl:a.length=b.length):∀{l:List Nat},(l.filterMap fun i=>a[i]?)=(l.filterMap fun i=>b[i]?)↔∀i∈l,a[i]?=b[i]?
 |[]=>by simp
 |k::l=>by
  have ih:=Bj5 (a:=a) (b:=b) hl (l:=l);by_cases h:k<a.length
  .have e1:=zA h;have e2:=zA (l:=b) (i:=k) (by omega);simp only[zN,e1,e2,zE,ih,yN,zJ]
  .have e1:a[k]?=none:=zR (by omega);have e2:b[k]?=none:=zR (by omega);simp only[zN,e1,e2,ih,yN,true_and]
def Bey{a b:List api_Value}{n:Nat}(hn:n<2^32)(hl:a.length=b.length):Afl a b n=true↔∀i,n.testBit i=true->a[i]?=b[i]?:=by
 unfold Afl pick;rw[decide_eq_true_iff,Bj5 hl];constructor
 .exact fun h i hi=>h i ((Abk hn).2 hi)
 .exact fun h i hi=>h i ((Abk hn).1 hi)
def Agf{l:List api_Value}{n:Nat}:∀v∈pick l n,v∈l:=by
 intro v hv;obtain⟨i,_,hi⟩:=yS.1 hv;exact zC hi
def Ban{l:List api_Value}{n:Nat}:(pick l n).length<=32:=yA (zW _ _) Afd
def q52_.sP{a b:api_Row}{n:Nat}(hn:n<2^32)(ha:a.Values.length<=1000)(hb:b.Values.length<=1000)(hs:∀v∈a.Values,v.Str.toList.length<Big):q52_.C a b n (Afl a.Values b.Values n):=by
 obtain⟨q,h1,h2⟩:=q52_.nt a b n (fun q=>q=Afl a.Values b.Values n)
  ⟨_,q41_.sP hn ha,_,q41_.sP hn hb,_,q72_.sP ⟨by have:=Ban (l:=a.Values) (n:=n);unfold Big;omega,fun v hv=>hs v (Agf v hv)⟩,rfl⟩
 rw[<-h1];exact h2
structure TV(t:api_Table):Prop where
 name:Agv t.Name=true
 na:t.Attrs.length<=16
 nr:t.Rows.length<=1000
 names:Aey t.Attrs=true
 rows:Aem t.Attrs.length 0 t.Rows=0
def Ae3{t:api_Table}:Acf t=0↔TV t:=by
 unfold Acf;constructor
 .intro h
  split at h
  .split at h
   .cases h
   .split at h
    .cases h
    .split at h
     .rename_i h1 h2 h3 h4;exact⟨h1,by omega,by omega,h4,h⟩
     .cases h
  .cases h
 .intro h;rw[if_pos h.name,if_neg (by have:=h.na;omega),if_neg (by have:=h.nr;omega),if_pos h.names];exact h.rows
def Aqe{n:Nat}:∀{l:List api_Row}{last:Int},Aem n last l=0->∀r∈l,r.Values.length=n/\(∀v∈r.Values,Ab2 v=true)/\last<r.ID
 |[],_,_,r,hr=>by cases hr
 |a::l,last,h,r,hr=>by
  simp only[Aem]at h
  split at h
  .cases h
  .split at h
   .split at h
    .rename_i h1 h2 h3;unfold Adt at h3;rw[List.all_eq_true]at h3;rcases zT.1 hr with rfl|hr
     .exact ⟨h2,h3,by omega⟩
     .obtain ⟨e1,e2,e3⟩:=Aqe h r hr;exact⟨e1,e2,by omega⟩
    .cases h
   .cases h
def TV.len{t:api_Table}(h:TV t){r:api_Row}(hr:r∈t.Rows):r.Values.length=t.Attrs.length:=(Aqe h.rows r hr).1
def TV.val{t:api_Table}(h:TV t){r:api_Row}(hr:r∈t.Rows):∀v∈r.Values,Ab2 v=true:=(Aqe h.rows r hr).2.1
def Axu{v:api_Value}(h:Ab2 v=true):v.Str.toList.length<=200:=by
 rcases Af3 h with h|h|h|h
 .rw [h.2.2];simp
 .rw [h.2];simp
 .exact h.2.2
 .rw [h.2.2];simp
def TNum(t:api_Table):Prop:=∀r∈t.Rows,∀v∈r.Values,Ak5 v
def Ae2(t:api_Table)(n:Nat):List (List api_Value):=t.Rows.map fun r=>pick r.Values n
def Agg{t:api_Table}{n:Nat}:(Ae2 t n).length=t.Rows.length:=by simp[Ae2]
def Bim{t:api_Table}(ht:TV t){n i j:Nat}(hn:n<2^32)(hi:i<t.Rows.length)(hj:j<t.Rows.length):(Ae2 t n)[i]?=(Ae2 t n)[j]?↔∀k,n.testBit k=true->(t.Rows[i]'hi).Values[k]?=(t.Rows[j]'hj).Values[k]?:=by
 unfold Ae2;rw[zD,zD,zA hi,zA hj];simp only[yI,zJ];rw[<-Bey hn (by rw[ht.len (zH hi),ht.len (zH hj)])];unfold Afl;rw[decide_eq_true_iff]
def OkP(t:api_Table)(l r i k:Nat):Prop:=(Ae2 t l)[i]?=(Ae2 t l)[k]?->(Ae2 t r)[i]?=(Ae2 t r)[k]?
def SatP(t:api_Table)(l r:Nat):Prop:=∀i k,i<t.Rows.length->k<i->OkP t l r i k
def SatP.all{t:api_Table}{l r:Nat}(h:SatP t l r){i k:Nat}(hi:i<t.Rows.length)(hk:k<t.Rows.length):OkP t l r i k:=by
 rcases Nat.lt_trichotomy i k with h1|h1|h1
 .exact fun e=>(h k i hk h1 e.symm).symm
 .subst h1;exact fun _=>rfl
 .exact h i k hi h1
def agr{t:api_Table}{n i k:Nat}(hi:i<t.Rows.length)(hk:k<t.Rows.length):Afl (t.Rows[i]).Values (t.Rows[k]).Values n=true↔(Ae2 t n)[i]?=(Ae2 t n)[k]?:=by
 unfold Ae2 Afl;rw[zD,zD,zA hi,zA hk];simp
def EqA(t:api_Table)(i k a:Nat):Prop:=(t.Rows[i]?.map fun r=>r.Values[a]?)=(t.Rows[k]?.map fun r=>r.Values[a]?)
instance (t:api_Table) (i k a:Nat):Decidable (EqA t i k a):=by unfold EqA;infer_instance
def Aj6{t:api_Table}(ht:TV t){n i j:Nat}(hn:n<2^32)(hi:i<t.Rows.length)(hj:j<t.Rows.length):(Ae2 t n)[i]?=(Ae2 t n)[j]?↔∀k,n.testBit k=true->EqA t i j k:=by
 rw[Bim ht hn hi hj];unfold EqA;rw[zA hi,zA hj];simp only[yI,zJ]
def Blq{t:api_Table}(ht:TV t){l r:Nat}(hl:l<2^32)(hr:r<2^32):SatP t l r↔∀i k,i<t.Rows.length->k<i->(∀a,l.testBit a=true->EqA t i k a)->∀a,r.testBit a=true->EqA t i k a:=by
 unfold SatP OkP;constructor
 .intro h i k hi hk;have:=h i k hi hk;rw[Aj6 ht hl hi (by omega),Aj6 ht hr hi (by omega)]at this;exact this
 .intro h i k hi hk;rw[Aj6 ht hl hi (by omega),Aj6 ht hr hi (by omega)];exact h i k hi hk
def q84_.sP{a b:Nat}(ha:a<2^32)(hb:b<2^32):q84_.C a b (decide (a &&& b=a)):=by
 obtain⟨r,h1,h2⟩:=q84_.nt a b (fun r=>r=decide (a &&& b=a)) (by
  rw[Adv (k:=.u32) (by simpa[top]using ha) (by simpa[top]using hb)];by_cases h:a &&& b=a
  .simp [h]
  .have:¬((a &&& b:Nat):Int)=(a:Int):=by omega
   simp[h,this])
 rw[<-h1];exact h2
def FdOK(l:List api_FD):Prop:=∀d∈l,U32 d.Lhs/\U32 d.Rhs
def inU(n:Nat)(l r:Int):Bool:=decide (sN l<2^n)&&decide (sN r<2^n)
def Bdt{n:Nat}{l r:Int}(hl:U32 l)(hr:U32 r):(shrw .u32 (bOr .u32 l r) (n:Int)=0)↔inU n l r=true:=by
 rw[hl.eq,hr.eq,Ae7 hl.top hr.top,Adz (zY hl.top hr.top)];unfold inU;rw[yG,decide_eq_true_iff,decide_eq_true_iff];have e1:sN (sN l:Int)=sN l:=by unfold sN;omega
 have e2:sN (sN r:Int)=sN r:=by unfold sN;omega
 rw[e1,e2,<-Aup,<-Azd];omega
def Bix{a n:Nat}(ha:a<2^32)(hn:n<=32):(a &&& Adh n=a)↔a<2^n:=by
 rw[Bls,Ad1];constructor
 .intro h i hi;have:=h i hi;rw[Am2,decide_eq_true_iff]at this;omega
 .intro h i hi;rw[Am2,decide_eq_true_iff];have:=h i hi;omega
def Av1{n:Nat}{x:Int}(hn:n<=32)(hx:U32 x):q84_.C x (Adh n) (decide (sN x<2^n)):=by
 have:=q84_.sP (a:=sN x) (b:=Adh n) hx.lt Azp;rw[<-hx.eq]at this;have e:decide (sN x &&& Adh n=sN x)=decide (sN x<2^n):=by rw[decide_eq_decide];exact Bix hx.lt hn
 rw[e]at this;exact this
def fdsE(n:Int)(l:List api_FD):Int:=if n<0∨16<n then 7 else if 64<l.length then 3 else if(l.all fun d=>inU n.toNat d.Lhs d.Rhs)=true then 0 else 1
def Anq{O:Type}{l:List O}{p:O->Bool}{L:Int->Prop}{J:Int->Prop}(stop:J 0->L (l.length:Int))
  (step:∀(k:Nat) a,l[k]?=some a->k<l.length->(if p a=true then L ((k+1:Nat):Int)else J 1)->L k) (h:J (if l.all p=true then 0 else 1)):L 0:=
 Akr (l:=l) (p:=p) (L:=L) (J:=fun b=>J (if b=true then 0 else 1)) (fun h=>stop (by simpa using h)) (fun k a ha hk h=>step k a ha hk (by simpa using h)) h
def q87_.sP{n:Int}{l:List api_FD}(hl:FdOK l):q87_.C n l (fdsE n l):=by
 obtain⟨r,h1,h2⟩:=q87_.nt n l (fun r=>r=fdsE n l) (by
  by_cases a:n<0∨16<n
  .have e:fdsE n l=7:=if_pos a;rw[e];by_cases b:n<0
   .rw [if_pos b]
   .rw [if_neg b,if_pos (by omega)]
  .rw [if_neg (by omega),if_neg (by omega)];by_cases b:64<l.length
   .have e:fdsE n l=3:=by unfold fdsE;rw[if_neg a,if_pos b]
    rw[e,if_pos (by omega)]
   .have e:fdsE n l=if(l.all fun d=>inU n.toNat d.Lhs d.Rhs)=true then 0 else 1:=by unfold fdsE;rw[if_neg a,if_neg b]
    rw[e,if_neg (by omega)]
    .obtain ⟨m,rfl⟩:∃m:Nat,n=m:=⟨n.toNat,by omega⟩
     refine Anq (l:=l) (p:=fun d=>inU m d.Lhs d.Rhs) (L:=fun i=>q87_.L1 m l i _) (J:=fun r=>r=_) ?_ ?_ rfl
     .intro h;apply q87_.K1;rw[if_neg (by omega)];exact h
     .intro k d hd hk h;apply q87_.K1;rw[if_pos (by omega)];refine⟨d,Ab6 hd,by omega,?_⟩;have hd':=hl d (zC hd);have e:=Bdt (n:=m) hd'.1 hd'.2;rw[Aa5 (by omega)]
      split
      .rename_i hh;rw[if_pos (e.1 hh)]at h;exact h
      .rename_i hh;rw[if_neg (fun h3=>hh (e.2 h3))]at h;exact h)
 rw[<-h1];exact h2
def q53_.sP{n:Int}{l:List api_FD}(hl:FdOK l):q53_.C n l (fdsE n l):=by
 obtain⟨r,h1,h2⟩:=q53_.nt n l (fun r=>r=fdsE n l) (by
  by_cases a:n<0∨16<n
  .have e:fdsE n l=7:=if_pos a;rw[e];by_cases b:n<0
   .rw [if_pos b]
   .rw [if_neg b,if_pos (by omega)]
  .rw [if_neg (by omega),if_neg (by omega)];by_cases b:64<l.length
   .have e:fdsE n l=3:=by unfold fdsE;rw[if_neg a,if_pos b]
    rw[e,if_pos (by omega)]
   .have e:fdsE n l=if(l.all fun d=>inU n.toNat d.Lhs d.Rhs)=true then 0 else 1:=by unfold fdsE;rw[if_neg a,if_neg b]
    rw[e,if_neg (by omega)]
    .obtain ⟨m,rfl⟩:∃m:Nat,n=m:=⟨n.toNat,by omega⟩
     refine⟨_,q70_.sP,?_⟩;refine Anq (l:=l) (p:=fun d=>inU m d.Lhs d.Rhs) (L:=fun i=>q53_.L1 l (Adh m) i _) (J:=fun r=>r=_) ?_ ?_ rfl
     .intro h;apply q53_.K1;rw[if_neg (by omega)];exact h
     .intro k d hd hk h;apply q53_.K1;rw[if_pos (by omega)];have hd':=hl d (zC hd);refine⟨d,Ab6 hd,_,Av1 (by omega) hd'.1,?_⟩;rw[Aa5 (by omega)];unfold inU at h
      split
      .rename_i hh;refine⟨_,Av1 (by omega) hd'.2,?_⟩
       split
       .rename_i h3;rw[if_pos (by rw[hh,h3];rfl)]at h;exact h
       .rename_i h3;rw[if_neg (by rw[hh,yP];exact h3)]at h;exact h
      .rename_i hh;rw[if_neg (by rw[zQ.2 hh];simp)]at h;exact h)
 rw[<-h1];exact h2
def Atp{n:Int}{l:List api_FD}(h:fdsE n l=0):0<=n/\n<=16:=by
 unfold fdsE at h
 split at h
 .cases h
 .omega
def Aeg(l:List api_MVD):Prop:=∀d∈l,U32 d.Lhs/\U32 d.Rhs
def basE(n:Int)(l:List api_FD)(m:List api_MVD):Int:=if fdsE n l=0 then(if 64<m.length then 3 else if(m.all fun d=>inU n.toNat d.Lhs d.Rhs)=true then 0 else 1)else fdsE n l
def q110_.sP{n:Int}{l:List api_FD}{m:List api_MVD}(hl:FdOK l)(hm:Aeg m):q110_.C n l m (basE n l m):=by
 obtain⟨r,h1,h2⟩:=q110_.nt n l m (fun r=>r=basE n l m) (by
  refine⟨_,q87_.sP hl,?_⟩;unfold basE
  split
  .rename_i h0;have hn:=Atp h0
   split
   .rw [if_pos (by omega)]
   .rw [if_neg (by omega)];obtain⟨q,rfl⟩:∃q:Nat,n=q:=⟨n.toNat,by omega⟩
    refine Anq (l:=m) (p:=fun d=>inU q d.Lhs d.Rhs) (L:=fun i=>q110_.L1 q m i _) (J:=fun r=>r=_) ?_ ?_ rfl
    .intro h;apply q110_.K1;rw[if_neg (by omega)];exact h
    .intro k d hd hk h;apply q110_.K1;rw[if_pos (by omega)];refine⟨d,Ab6 hd,by omega,?_⟩;have hd':=hm d (zC hd);have e:=Bdt (n:=q) hd'.1 hd'.2;rw[Aa5 (by omega)]
     split
     .rename_i hh;rw[if_pos (e.1 hh)]at h;exact h
     .rename_i hh;rw[if_neg (fun h3=>hh (e.2 h3))]at h;exact h
  .rfl)
 rw[<-h1];exact h2
def q42_.sP{n:Nat}{x:Int}(hn:n<=32)(hx:U32 x):q42_.C n x (decide (sN x<2^n)):=by
 obtain⟨r,h1,h2⟩:=q42_.nt n x (fun r=>r=decide (sN x<2^n)) ⟨_,q70_.sP,_,Av1 hn hx,rfl⟩;rw[<-h1];exact h2
def q54_.sP{n:Int}{l:List api_FD}{m:List api_MVD}(hl:FdOK l)(hm:Aeg m):q54_.C n l m (basE n l m):=by
 obtain⟨r,h1,h2⟩:=q54_.nt n l m (fun r=>r=basE n l m) (by
  refine⟨_,q53_.sP hl,?_⟩;unfold basE
  split
  .rename_i h0;have hn:=Atp h0
   split
   .rw [if_pos (by omega)]
   .rw [if_neg (by omega)];obtain⟨q,rfl⟩:∃q:Nat,n=q:=⟨n.toNat,by omega⟩
    refine Anq (l:=m) (p:=fun d=>inU q d.Lhs d.Rhs) (L:=fun i=>q54_.L1 q m i _) (J:=fun r=>r=_) ?_ ?_ rfl
    .intro h;apply q54_.K1;rw[if_neg (by omega)];exact h
    .intro k d hd hk h;apply q54_.K1;rw[if_pos (by omega)];have hd':=hm d (zC hd);refine⟨d,Ab6 hd,_,q42_.sP (by omega) hd'.1,?_⟩;rw[Aa5 (by omega)];unfold inU at h
     split
     .rename_i hh;refine⟨_,q42_.sP (by omega) hd'.2,?_⟩
      split
      .rename_i h3;rw[if_pos (by rw[hh,h3];rfl)]at h;exact h
      .rename_i h3;rw[if_neg (by rw[hh,yP];exact h3)]at h;exact h
     .rename_i hh;rw[if_neg (by rw[zQ.2 hh];simp)]at h;exact h
  .rfl)
 rw[<-h1];exact h2
def Akn{t:api_Table}(ht:TV t){n i k:Nat}(hn:n<2^32)(hi:i<t.Rows.length)(hk:k<t.Rows.length):Afl (t.Rows[i]).Values (t.Rows[k]).Values n=true↔∀a,n.testBit a=true->EqA t i k a:=(agr hi hk).trans (Aj6 ht hn hi hk)
def MixP(t:api_Table)(left i k:Nat):Prop:=∃j,j<t.Rows.length/\(∀a,left.testBit a=true->EqA t j i a)/\∀a,a<t.Attrs.length->left.testBit a=false->EqA t j k a
def MvP(t:api_Table)(l r:Nat):Prop:=∀i k,i<t.Rows.length->k<t.Rows.length->(∀a,l.testBit a=true->EqA t i k a)->MixP t (l ||| r) i k
def Aqd{t:api_Table}(ht:TV t){n i k:Nat}(hn:n<2^32)(hi:i<t.Rows.length)(hk:k<t.Rows.length):q52_.C (t.Rows[i]) (t.Rows[k]) n (Afl (t.Rows[i]).Values (t.Rows[k]).Values n):=by
 have mi:=zH hi;have mk:=zH hk;have na:=ht.na;have la:=ht.len mi;have lb:=ht.len mk;exact q52_.sP hn (by omega) (by omega) fun v hv=>by have:=Axu (ht.val mi v hv);unfold Big;omega
def Bar{n left:Nat}(hn:n<=16){P:Nat->Prop}:(∀a,(Aa7 (Adh n) left).testBit a=true->P a)↔∀a,a<n->left.testBit a=false->P a:=by
 constructor
 .intro h a ha hl;refine h a ?_;rw[Aa9,Am2,hl,decide_eq_true (by omega)];rfl
 .intro h a ha;rw[Aa9,Am2,yG,Bool.not_eq_true',decide_eq_true_eq]at ha;exact h a (by omega) ha.2
def q55_.sP{t:api_Table}(ht:TV t){left i k:Nat}(hl:left<2^32)(hi:i<t.Rows.length)(hk:k<t.Rows.length):∃b,q55_.C t (t.Rows[i]) (t.Rows[k]) left b/\(b=true↔MixP t left i k):=by
 have na:=ht.na;have nr:=ht.nr;have hf:Adh t.Attrs.length<2^32:=Azp;have hrest:Aa7 (Adh t.Attrs.length) left<2^32:=zK Adf hf;obtain⟨b,h1,h2⟩:=q55_.nt t (t.Rows[i]) (t.Rows[k]) left (fun b=>(b=true↔MixP t left i k)) (by
  have go:∀(d j:Nat),d+j=t.Rows.length->(∀q,q<j->¬((∀a,left.testBit a=true->EqA t q i a)/\∀a,a<t.Attrs.length->left.testBit a=false->EqA t q k a))->q55_.L1 t (t.Rows[i]) (t.Rows[k]) left (j:Int) (fun b=>(b=true↔MixP t left i k)):=by
   intro d
   induction d with
   |zero=>
    intro j hd hno;apply q55_.K1;rw[if_neg (by omega)];simp only[Bool.false_eq_true,false_iff];rintro⟨q,hq,h⟩;exact hno q (by omega) h
   |succ d ih=>
    intro j hd hno;have hj:j<t.Rows.length:=by omega
    have next:¬((∀a,left.testBit a=true->EqA t j i a)/\∀a,a<t.Attrs.length->left.testBit a=false->EqA t j k a)->q55_.L2 t (t.Rows[i]) (t.Rows[k]) left (j:Int) (fun b=>(b=true↔MixP t left i k)):=fun hn=>by
     apply q55_.K2;rw[Aa5 (by omega)];refine ih (j+1) (by omega) fun q hq=>?_;by_cases hqj:q=j
     .subst hqj;exact hn
     .exact hno q (by omega)
    apply q55_.K1;rw[if_pos (by omega)];refine⟨t.Rows[j],Ab6 (zA hj),_,Aqd ht hl hj hi,?_⟩;by_cases ha:Afl (t.Rows[j]).Values (t.Rows[i]).Values left=true
    .rw [if_pos ha];refine⟨_,q70_.sP,?_⟩;rw[Abp (by simpa[top]using hf) (by simpa[top]using hl)];refine⟨_,Aqd ht hrest hj hk,?_⟩;by_cases hb:Afl (t.Rows[j]).Values (t.Rows[k]).Values (Aa7 (Adh t.Attrs.length) left)=true
     .rw [if_pos hb];simp only[true_iff];exact⟨j,hj,(Akn ht hl hj hi).1 ha,(Bar na).1 ((Akn ht hrest hj hk).1 hb)⟩
     .rw [if_neg hb];exact next fun h=>hb ((Akn ht hrest hj hk).2 ((Bar na).2 h.2))
    .rw [if_neg ha];exact next fun h=>ha ((Akn ht hl hj hi).2 h.1)
  exact go t.Rows.length 0 rfl fun q hq=>absurd hq (yJ q))
 exact⟨b,h2,h1⟩
open Classical in
noncomputable def mvB(t:api_Table)(l r:Nat):Bool:=decide (MvP t l r)
def Aj3{t:api_Table}{l r:Nat}:mvB t l r=true↔MvP t l r:=by unfold mvB;exact @decide_eq_true_iff _ (Classical.propDecidable _)
def orI{l r:Int}(hl:U32 l)(hr:U32 r):bOr .u32 l r=((sN l ||| sN r:Nat):Int):=by
 conv=>lhs;rw[hl.eq,hr.eq]
 exact Ae7 hl.top hr.top
def Au2{n:Nat}{l r:Int}:inU n l r=true↔sN l ||| sN r<2^n:=by
 unfold inU;rw[yG,decide_eq_true_eq,decide_eq_true_eq,Aup]
noncomputable def Afo(t:api_Table)(m:api_MVD):Bool×Int:=if inU t.Attrs.length m.Lhs m.Rhs=true then(mvB t (sN m.Lhs) (sN m.Rhs),0)else(false,1)
namespace q56_
def loop{t:api_Table}(ht:TV t){m:api_MVD}(hl:U32 m.Lhs)(hr:U32 m.Rhs){J:Bool×Int->Prop}(hf:¬MvP t (sN m.Lhs) (sN m.Rhs)->J (false,0))(hp:MvP t (sN m.Lhs) (sN m.Rhs)->J (true,0)):
  ∀(d i:Nat),d+i=t.Rows.length->(∀q k,q<i->k<t.Rows.length->(∀a,(sN m.Lhs).testBit a=true->EqA t q k a)->MixP t (sN m.Lhs ||| sN m.Rhs) q k)->L1 t m (i:Int) J:=by
 have na:=ht.na;have nr:=ht.nr;have hor:sN m.Lhs ||| sN m.Rhs<2^32:=zY hl.lt hr.lt
 intro d
 induction d with
 |zero=>
  intro i hd hdone;apply K1;rw[if_neg (by omega)];exact hp fun q k hq hk=>hdone q k (by omega) hk
 |succ d ih=>
  intro i hd hdone;have hi:i<t.Rows.length:=by omega
  apply K1;rw[if_pos (by omega)];have inner:∀(c k:Nat),c+k=t.Rows.length->(∀q,q<k->(∀a,(sN m.Lhs).testBit a=true->EqA t i q a)->MixP t (sN m.Lhs ||| sN m.Rhs) i q)->L2 t m (i:Int) (k:Int) J:=by
   intro c
   induction c with
   |zero=>
    intro k hc hk2;apply K2;rw[if_neg (by omega),Aa5 (by omega)];refine ih (i+1) (by omega) fun q k' hq hk'=>?_;by_cases hqi:q=i
    .subst hqi;exact hk2 k' (by omega)
    .exact hdone q k' (by omega) hk'
   |succ c ihc=>
    intro k hc hk2;have hk:k<t.Rows.length:=by omega
    have next:((∀a,(sN m.Lhs).testBit a=true->EqA t i k a)->MixP t (sN m.Lhs ||| sN m.Rhs) i k)->L3 t m (i:Int) (k:Int) J:=fun hn=>by
     apply K3;rw[Aa5 (by omega)];refine ihc (k+1) (by omega) fun q hq=>?_;by_cases hqk:q=k
     .subst hqk;exact hn
     .exact hk2 q (by omega)
    apply K2;rw[if_pos (by omega)];have hag:=Aqd ht hl.lt hi hk;rw[<-hl.eq]at hag;refine⟨t.Rows[i],Ab6 (zA hi),t.Rows[k],Ab6 (zA hk),_,hag,?_⟩;by_cases ha:Afl (t.Rows[i]).Values (t.Rows[k]).Values (sN m.Lhs)=true
    .rw [if_pos ha,orI hl hr];obtain⟨b,hb,hbi⟩:=q55_.sP ht hor hi hk;refine⟨b,hb,?_⟩;by_cases hbt:b=true
     .rw [if_pos hbt];exact next fun _=>hbi.1 hbt
     .rw [if_neg hbt];exact hf fun h=>hbt (hbi.2 (h i k hi hk ((Akn ht hl.lt hi hk).1 ha)))
    .rw [if_neg ha];exact next fun h=>absurd ((Akn ht hl.lt hi hk).2 h) ha
  exact inner t.Rows.length 0 rfl fun q hq=>absurd hq (yJ q)
def sP{t:api_Table}(ht:TV t){m:api_MVD}(hl:U32 m.Lhs)(hr:U32 m.Rhs):C t m (Afo t m):=by
 have na:=ht.na;obtain⟨r,h1,h2⟩:=nt t m (fun r=>r=Afo t m) (by
  refine⟨_,q50_.sP,?_⟩;rw[if_pos (Ae3.2 ht)];have hw:=q42_.sP (n:=t.Attrs.length) (x:=bOr .u32 m.Lhs m.Rhs) (by omega) (by rw[orI hl hr];exact U32.of (zY hl.lt hr.lt));refine⟨_,hw,?_⟩;unfold Afo;have e:sN (bOr .u32 m.Lhs m.Rhs)=sN m.Lhs ||| sN m.Rhs:=by rw[orI hl hr,Aco]
  by_cases hin:inU t.Attrs.length m.Lhs m.Rhs=true
  .rw [if_pos (by rw[e,decide_eq_true_eq];exact Au2.1 hin),if_pos hin];refine loop ht hl hr (fun hn=>?_) (fun hy=>by rw[Aj3.2 hy]) t.Rows.length 0 rfl fun q k hq=>absurd hq (yJ q);cases hb:mvB t (sN m.Lhs) (sN m.Rhs)with
   |false=>rfl
   |true=>exact absurd (Aj3.1 hb) hn
  .rw [if_neg (by rw[e,decide_eq_true_eq];exact fun h=>hin (Au2.2 h)),if_neg hin])
 rw[<-h1];exact h2
end q56_
def Apw{l m:List api_Value}:Abf l++Abf m=Abf (l++m):=by
 rw[<-Aks,Aqx];unfold Abf;rw[Avf];simp[bstr,Adj,yQ]
def Bi3{v:api_Value}:keyW v=Abf [v]:=by
 unfold keyW Alv Abf bstr Adj;simp[b8]
def Au9{l:List api_Value}:(Abf l).size=(Adj l).length:=by
 show(Abf l).data.size=_;unfold Abf bstr;rw[List.size_toArray,zF]
def Apu:∀{l:List api_Value},(∀v∈l,Ab2 v=true)->(Adj l).length<=403*l.length
 |[],_=>by simp[Adj]
 |a::l,h=>by
  have h1:=Apu (l:=l) fun v hv=>h v (by simp[hv]);have h2:=Ao7 (h a (by simp));simp only[Adj,yE,zO,zB]at h1⊢;omega
def Ba3{l:List api_Value}{n:Nat}(h:∀v∈l,Ab2 v=true):(Abf (pick l n)).size<=12896:=by
 rw[Au9];have h1:=Apu (l:=pick l n) fun v hv=>h v (Agf v hv);have h2:=Ban (l:=l) (n:=n);omega
def Azl{a b:List api_Value}(hl:a.length=b.length):∀{l:List Nat},(l.filterMap fun i=>a[i]?).length=(l.filterMap fun i=>b[i]?).length
 |[]=>rfl
 |k::l=>by
  have ih:=Azl (a:=a) (b:=b) hl (l:=l);by_cases h:k<a.length
  .have e1:=zA h;have e2:=zA (l:=b) (i:=k) (by omega);simp only[zN,e1,e2,zB,ih]
  .have e1:a[k]?=none:=zR (by omega);have e2:b[k]?=none:=zR (by omega);simp only[zN,e1,e2,ih]
def ofP(t:api_Table)(n:Nat):api_Partition:=part (Ae2 t n)
def Bih{t:api_Table}{n:Nat}(h:TV t)(hn:TNum t):part (t.Rows.map fun r=>Abf (pick r.Values n))=ofP t n:=by
 unfold ofP Ae2;refine Bgv (by simp) fun i j hi hj=>?_;rw[zF]at hi hj;rw[zD,zD,zD,zD,zA hi,zA hj];simp only[yI,zJ];have m1:=zH hi;have m2:=zH hj;refine Apv (Azl (by rw[h.len m1,h.len m2])) (fun v hv=>?_) (fun v hv=>?_)
 .exact ⟨h.val m1 v (Agf v hv),hn _ m1 v (Agf v hv)⟩
 .exact ⟨h.val m2 v (Agf v hv),hn _ m2 v (Agf v hv)⟩
namespace q101_
def inner{t:api_Table}{n:Nat}{J:api_Partition->Prop}{ks:List ByteArray}{k:Nat}{r:api_Row}(ht:TV t)(hn:n<2^t.Attrs.length)(hr:r∈t.Rows)(hk:k<1000)(hkk:k<ks.length)
  (h:L1 t ((Aal n).map fun(i:Nat)=>(i:Int)) (ks.set k (Abf (pick r.Values n))) ((k+1:Nat):Int) J):∀j,j<=(Aal n).length ->
  L2 t ((Aal n).map fun(i:Nat)=>(i:Int)) ks k r ((Adj (((Aal n).take j).filterMap fun i=>r.Values[i]?)).map b8) k j J:=by
 have hn32:n<2^32:=zP hn (zL (by decide) (by have:=ht.na;omega));have hl:=Afd (n:=n);refine down ?_ ?_
 .apply K2;rw[zF,if_neg (by omega),yU];refine⟨ks[k],by rw[Ac6];exact zA hkk,?_⟩;rw[Aa5 (by omega)];have e:lset ks (k:Int) (Abf (pick r.Values n))=ks.set k (Abf (pick r.Values n)):=by simp[lset]
  unfold Abf pick at e h;rw[e];exact h
 .intro j hj h;apply K2;rw[zF,if_pos (by omega)];have hget:=zA hj;generalize(Aal n)[j]=i at hget;have hi:=(Abk hn32).1 (zC hget);have hilt:i<t.Attrs.length:=by
   false_or_by_contra
   rename_i hh;rw[yK (zP hn (zL (by decide) (by omega)))]at hi;cases hi
  have hrl:=ht.len hr;have hv:=zA (l:=r.Values) (i:=i) (by omega);generalize r.Values[i]'(by omega)=v at hv;have hval:=ht.val hr v (zC hv);refine⟨(i:Int),by rw[Ac6,zD,hget];rfl,v,Ab6 hv,(keyW v,0),q116_.sP hval,?_⟩;have hsum:∀l:List api_Value,(∀v∈l,Ab2 v=true)->(Adj l).length<=403*l.length:=by
   intro l
   induction l with
   |nil=>simp[Adj]
   |cons a l ih=>
    intro hh;have:=ih fun v hv=>hh v (by simp[hv]);have h2:=Ao7 (hh a (by simp));simp only[Adj,yE,zO,zB]at this⊢;omega
  have h1:=hsum (((Aal n).take j).filterMap fun i=>r.Values[i]?) (fun v hv=>by
   obtain⟨i,_,hi⟩:=yS.1 hv
   exact ht.val hr v (zC hi))
  have h2:(((Aal n).take j).filterMap fun i=>r.Values[i]?).length<=32:=yA (zW _ _) (by rw[zM];omega);have h3:=Ao7 hval;refine⟨?_,?_⟩
  .rw [zF];have:(keyW v).size=(keyJ v).length:=Ax9;simp only[this];omega
  .rw [Aa5 (by omega)];have e:(((Aal n).take (j+1)).filterMap fun i=>r.Values[i]?)=(((Aal n).take j).filterMap fun i=>r.Values[i]?)++[v]:=by
    rw[zX,hget,yM];simp[hv]
   rw[e]at h;simp only[Adj,yQ,List.map_append]at h;rw[Ax8];simpa[Adj]using h
def sP{t:api_Table}{n:Nat}(ht:TV t)(hnum:TNum t)(hn:n<2^t.Attrs.length):C t n (ofP t n):=by
 have hn32:n<2^32:=zP hn (zL (by decide) (by have:=ht.na;omega));have hr:=ht.nr;obtain⟨q,h1,h2⟩:=nt t n (fun q=>q=ofP t n) (by
  refine⟨_,q69_.sP hn32,by omega,?_⟩;have loop:∀k,k<=t.Rows.length->L1 t ((Aal n).map fun(i:Nat)=>(i:Int)) ((t.Rows.take k).map (fun r=>Abf (pick r.Values n))++yB (t.Rows.length-k) (⟨#[]⟩:ByteArray)) k fun q=>q=ofP t n:=by
   refine down ?_ ?_
   .apply K1;rw[if_neg (by omega),yU,Nat.sub_self,List.replicate_zero,List.append_nil];refine⟨_,q19_.sP (by rw[zF];omega),?_⟩;rw[<-Bih ht hnum];simp[part]
   .intro k hk h;apply K1;rw[if_pos (by omega)];have hget:=zA hk;generalize t.Rows[k]=r at hget;refine⟨r,Ab6 hget,?_⟩;have:=inner (t:=t) (n:=n) (J:=fun q=>q=ofP t n) (ks:=(t.Rows.take k).map (fun r=>Abf (pick r.Values n))++yB (t.Rows.length-k) (⟨#[]⟩:ByteArray)) (k:=k) (r:=r) ht hn (zC hget) (by omega) (by simp[zM];omega) (by
     have e:((t.Rows.take k).map (fun r=>Abf (pick r.Values n))++yB (t.Rows.length-k) (⟨#[]⟩:ByteArray)).set k (Abf (pick r.Values n))=(t.Rows.take (k+1)).map (fun r=>Abf (pick r.Values n))++yB (t.Rows.length-(k+1)) (⟨#[]⟩:ByteArray):=by
      have hl:((t.Rows.take k).map (fun r=>Abf (pick r.Values n))).length=k:=by rw[zF,zM];omega
      obtain⟨m,hm⟩:∃m,t.Rows.length-k=m+1:=⟨t.Rows.length-k-1,by omega⟩
      rw[List.set_append_right _ _ (by omega),hl,Nat.sub_self,hm,List.replicate_succ,List.set_cons_zero,zX,hget];have:t.Rows.length-(k+1)=m:=by omega
      rw[this];simp
     rw[e];exact h) 0 (zU _)
    simpa[Adj]using this
  have:=loop 0 (zU _)
  simpa using this)
 rw[<-h1];exact h2
end q101_
def q58_.sP{t:api_Table}{n:Nat}(hn:n<2^32):q58_.C t n (decide (n<2^t.Attrs.length)):=by
 obtain⟨q,h1,h2⟩:=q58_.nt t n (fun q=>q=decide (n<2^t.Attrs.length)) (by
  refine⟨by omega,?_⟩;have hn64:n<2^top .u64:=zP hn (by decide);rw[Ae0 hn64,Adz hn64];have:(((n / 2^t.Attrs.length:Nat):Int)=0)↔n<2^t.Attrs.length:=by
   have hp:0<2^t.Attrs.length:=yR (by simp);constructor
   .intro h;have h2:n / 2^t.Attrs.length=0:=by omega
    rw[Nat.div_eq_zero_iff]at h2;omega
   .intro h;rw[Nat.div_eq_of_lt h];rfl
  by_cases hh:n<2^t.Attrs.length
  .simp [hh,this.2 hh]
  .have h3:¬((n / 2^t.Attrs.length:Nat):Int)=0:=fun h=>hh (this.1 h);rw[decide_eq_false hh]
   simpa using h3)
 rw[<-h1];exact h2
def pop8(m:Nat):Nat:=((zS 8).filter fun i=>m.testBit i).length
def Ai6{n k:Nat}:((zS 8).map (·+k)).filter (fun i=>n.testBit i)=((zS 8).filter fun i=>(n / 2^k%256).testBit i).map (·+k):=by
 rw[List.filter_map];congr 1;refine List.filter_congr fun i hi=>?_;have hi:=List.mem_range.1 hi;simp only[Function.comp];rw[show(256:Nat)=2^8 from rfl,Nat.testBit_mod_two_pow,Nat.testBit_div_two_pow];simp[hi]
def Bgn(n:Nat):szN n=pop8 (n%256)+pop8 (n / 2^8%256)+pop8 (n / 2^16%256)+pop8 (n / 2^24%256):=by
 have e:zS 32=(zS 8).map (·+0)++(zS 8).map (·+8)++(zS 8).map (·+16)++(zS 8).map (·+24):=by decide
 unfold szN Aal pop8;rw[e,yD,yD,yD,Ai6,Ai6,Ai6,Ai6];simp only[zO,zF,Nat.pow_zero,Nat.div_one]
def Bly(a:Nat):a &&& 255=a%256:=Nat.and_two_pow_sub_one_eq_mod a 8
def Anb{m:Nat}:pop8 m<=8:=by
 unfold pop8;exact yA (yL _ _) (by simp)
def Arf{m:Nat}:u8i (UInt8.ofNat (pop8 m))=(pop8 m:Int):=by
 unfold u8i;rw[UInt8.toNat_ofNat'];have:=Anb (m:=m);omega
def q20_.sP{n:Nat}(hn:n<2^32):q20_.C n (szN n:Int):=by
 obtain⟨r,h1,h2⟩:=q20_.nt n (fun r=>r=(szN n:Int)) (by
  have ht:n<2^top .u32:=by simpa[top]using hn
  have e24:=Adz (k:=.u32) (a:=n) (i:=24) ht;have e16:=Adz (k:=.u32) (a:=n) (i:=16) ht;have e8:=Adz (k:=.u32) (a:=n) (i:=8) ht;rw[show((24:Nat):Int)=24 from rfl]at e24;rw[show((16:Nat):Int)=16 from rfl]at e16;rw[show((8:Nat):Int)=8 from rfl]at e8;have a255:∀a:Nat,a<2^32->bAnd .u32 (a:Int) 255=((a%256:Nat):Int):=fun a ha=>by
   have:=Adv (k:=.u32) (a:=a) (b:=255) (by simpa[top]using ha) (by simp only[top];omega);rw[show((255:Nat):Int)=255 from rfl]at this;rw[this,Bly]
  rw[e24,e16,e8,a255 _ (zK (yX _ _) hn),a255 _ (zK (yX _ _) hn),a255 _ hn];have h24:n / 2^24<256:=by omega
  have em:n / 2^24=n / 2^24%256:=(yF h24).symm;have hs:=Bgn n;rw[em];have m1:n / 2^24%256<256:=yO _ (by omega);have m2:n / 2^16%256<256:=yO _ (by omega);have m3:n / 2^8%256<256:=yO _ (by omega);have m4:n%256<256:=yO _ (by omega);generalize n / 2^24%256=q1 at *;generalize n / 2^16%256=q2 at *;generalize n / 2^8%256=q3 at *;generalize n%256=q4 at *;clear hn ht e24 e16 e8 a255 h24 em;refine⟨UInt8.ofNat (pop8 q1),⟨by omega,?_⟩,UInt8.ofNat (pop8 q2),⟨by omega,?_⟩,UInt8.ofNat (pop8 q3),⟨by omega,?_⟩,UInt8.ofNat (pop8 q4),⟨by omega,?_⟩,?_⟩
  .rw [zI];clear hs m2 m3 m4
   revert q1
   decide +kernel
  .rw [zI];clear hs m1 m3 m4
   revert q2
   decide +kernel
  .rw [zI];clear hs m1 m2 m4
   revert q3
   decide +kernel
  .rw [zI];clear hs m1 m2 m3
   revert q4
   decide +kernel
  .rw [Arf,Arf,Arf,Arf];have b1:=Anb (m:=q1);have b2:=Anb (m:=q2);have b3:=Anb (m:=q3);have b4:=Anb (m:=q4);have w8:∀a b:Nat,a+b<256->IntKind.wrap .u8 ((a:Int)+(b:Int))=((a+b:Nat):Int):=fun a b h=>by
    rw[show(a:Int)+(b:Int)=((a+b:Nat):Int) by omega];exact Ae0 (k:=.u8) (by simpa[top]using h)
   rw[w8 _ _ (by omega),w8 _ _ (by omega),w8 _ _ (by omega),hs];have:pop8 q1+pop8 q2+pop8 q3+pop8 q4=pop8 q4+pop8 q3+pop8 q2+pop8 q1:=by omega
   rw[this]
   exact Af4 (by omega) (by omega))
 rw[<-h1];exact h2
def q102_.sP{x:Int}(hx:U32 x):q102_.C x (szN (sN x):Int):=by
 have:=q20_.sP hx.lt;rw[<-hx.eq]at this;obtain⟨r,h1,h2⟩:=q102_.nt x (fun r=>r=(szN (sN x):Int)) ⟨_,this,rfl⟩;rw[<-h1];exact h2
namespace q23_
def inner{t:api_Table}{fd:api_FD}{l r:Nat}{J:Bool->Prop}{i:Nat}(ht:TV t)(el:fd.Lhs=l)(er:fd.Rhs=r)(hl:l<2^32)(hr:r<2^32)(hi:i<t.Rows.length)(hf:¬SatP t l r->J false)
  (h:(∀k,k<i->OkP t l r i k)->L1 t fd ((i+1:Nat):Int) J):∀k,k<=i->((∀j,j<k->OkP t l r i j)->L2 t fd i k J):=by
 have nr:=ht.nr;have na:=ht.na;refine down ?_ ?_
 .intro hk;apply K2;rw[if_neg (by omega),Aa5 (by omega)];exact h hk
 .intro k hk ih hj;apply K2;rw[if_pos (by omega)];have mi:=zH hi;have mk:=zH (l:=t.Rows) (n:=k) (by omega);have sv:∀v∈(t.Rows[i]).Values,v.Str.toList.length<Big:=fun v hv=>by have:=Axu (ht.val mi v hv);unfold Big;omega
  have la:=ht.len mi;have lb:=ht.len mk;have next:OkP t l r i k->L3 t fd i k J:=fun ho=>by
   apply K3;rw[Aa5 (by omega)];refine ih fun j hjk=>?_;by_cases hjj:j=k
   .subst hjj;exact ho
   .exact hj j (by omega)
  refine⟨t.Rows[i],Ab6 (zA hi),t.Rows[k],Ab6 (zA (by omega)),_,by rw[el];exact q52_.sP hl (by omega) (by omega) sv,?_⟩
  split
  .rename_i h1;refine⟨_,by rw[er];exact q52_.sP hr (by omega) (by omega) sv,?_⟩
   split
   .rename_i h2;exact next fun _=>(agr hi (by omega)).1 h2
   .rename_i h2;refine hf fun hs=>h2 ?_;exact(agr hi (by omega)).2 (hs i k hi hk ((agr hi (by omega)).1 h1))
  .rename_i h1;exact next fun hh=>absurd ((agr hi (by omega)).2 hh) h1
def sP{t:api_Table}{fd:api_FD}{l r:Nat}(ht:TV t)(el:fd.Lhs=l)(er:fd.Rhs=r)(hl:l<2^32)(hr:r<2^32):∃b,C t fd b/\(b=true↔SatP t l r):=by
 obtain⟨b,h1,h2⟩:=nt t fd (fun b=>(b=true↔SatP t l r)) (by
  have nr:=ht.nr;have hf:¬SatP t l r->(false=true↔SatP t l r):=fun h=>by simp[h]
  have loop:∀i,i<=t.Rows.length->((∀a,a<i->∀k,k<a->OkP t l r a k)->L1 t fd i fun b=>(b=true↔SatP t l r)):=by
   refine down ?_ ?_
   .intro h;apply K1;rw[if_neg (by omega)];simp only[true_iff];exact fun i k hi hk=>h i hi k hk
   .intro i hi ih hh;apply K1;rw[if_pos (by omega)];refine inner ht el er hl hr hi hf (fun hk=>ih fun a ha k hka=>?_) 0 (zU _) (fun j hj=>by omega);by_cases hai:a=i
    .subst hai;exact hk k hka
    .exact hh a (by omega) k hka
  exact loop 0 (zU _) (fun a ha=>by omega))
 exact⟨b,h2,h1⟩
end q23_
def Bh0{t:api_Table}(hr:t.Rows.length<=1000){l r:Nat}:RefP (ofP t l) (ofP t r)↔SatP t l r:=by
 have hb:Alu (ofP t l) (ofP t r)=0:=by
  have v1:Ad8 (ofP t l)=true:=Aof (by rw[Agg];exact hr);have v2:Ad8 (ofP t r)=true:=Aof (by rw[Agg];exact hr);have e:(ofP t l).Rows=(ofP t r).Rows:=by simp[ofP,part,Agg]
  simp[Alu,v1,v2,e]
 have er:(ofP t l).Rows=(t.Rows.length:Int):=by simp[ofP,part,Agg]
 have key:∀(n i j:Nat),i<t.Rows.length->j<t.Rows.length->(Same (ofP t n) i j↔(Ae2 t n)[i]?=(Ae2 t n)[j]?):=fun n i j hi hj=>by
  unfold ofP;rw[Bga (by rw[Agg];omega) (by rw[Agg];omega),Ac6,Ac6]
 constructor
 .rintro ⟨_,h⟩ i k hi hk e;exact(key r i k hi (by omega)).1 (h i k (by omega) (by omega) ((key l i k hi (by omega)).2 e))
 .intro h;refine⟨hb,fun i j hi hj hs=>?_⟩;obtain⟨i,rfl⟩:∃n:Nat,i=n:=⟨i.toNat,by omega⟩
  obtain⟨j,rfl⟩:∃n:Nat,j=n:=⟨j.toNat,by omega⟩
  exact(key r i j (by omega) (by omega)).2 (h.all (by omega) (by omega) ((key l i j (by omega) (by omega)).1 hs))
def Akz(t:api_Table)(l r:Nat):Int:=if Acf t=0 then(if l ||| r<2^t.Attrs.length then 0 else 6)else Acf t
def q77_.sP{t:api_Table}{fd:api_FD}{l r:Nat}(hnum:TNum t)(el:fd.Lhs=l)(er:fd.Rhs=r)(hl:l<2^32)(hr:r<2^32):∃q,q77_.C t fd q/\q.2=Akz t l r/\(q.1=true↔Akz t l r=0/\SatP t l r):=by
 obtain⟨q,h1,h2⟩:=q77_.nt t fd (fun q=>q.2=Akz t l r/\(q.1=true↔Akz t l r=0/\SatP t l r)) (by
  refine⟨_,q109_.sP,?_⟩;unfold Akz
  split
  .rename_i h0;have ht:=Ae3.1 h0;rw[el,er,Ae7 (k:=.u32) (by simpa[top]using hl) (by simpa[top]using hr)];refine⟨_,q58_.sP (zY hl hr),?_⟩;by_cases hh:l ||| r<2^t.Attrs.length
   .rw [if_pos (decide_eq_true hh),if_pos hh];have hll:l<2^t.Attrs.length:=zK Nat.left_le_or hh;have hrr:r<2^t.Attrs.length:=zK Nat.right_le_or hh;have sm:∀m,Ajc (ofP t m):=fun m=>Be6 (by rw[Agg];exact ht.nr);obtain⟨b,hb,hbi⟩:=q44_.sP (sm l) (sm r);refine⟨_,q101_.sP ht hnum hll,_,q101_.sP ht hnum hrr,b,hb,rfl,?_⟩;rw[hbi,Bh0 ht.nr];simp
   .rw [if_neg (by simpa using hh),if_neg hh];simp
  .rename_i h0;simp[h0])
 exact⟨q,h2,h1⟩
def Bad{l:List Int}{x:Int}(hn:l.length<1000000000):q13_.C l x (decide (x∈l)):=by
 have am:(l.any fun a=>decide (x=a))=decide (x∈l):=by
  rw[Bool.eq_iff_iff,List.any_eq_true,decide_eq_true_eq];constructor
  .rintro ⟨a,ha,h⟩;rw[of_decide_eq_true h];exact ha
  .intro h;exact⟨x,h,decide_eq_true rfl⟩
 obtain⟨q,g1,g2⟩:=q16_.nt l x (fun r=>r=ixI (fun a=>decide (x=a)) l) (by
  refine Akb (l:=l) (p:=fun a=>decide (x=a)) (L:=fun i=>q16_.L1 l x i _) (J:=fun r=>r=ixI (fun a=>decide (x=a)) l) ?_ ?_ rfl
  .intro h;apply q16_.K1;rw[if_neg (by omega)];exact h
  .intro k a ha hk h;apply q16_.K1;rw[if_pos (by omega)];refine⟨a,Ab6 ha,?_⟩;rw[Aa5 (by omega)];by_cases hx:x=a
   .rw [if_pos hx];rw[if_pos (decide_eq_true hx)]at h;exact h
   .rw [if_neg hx];rw[if_neg (by rw[decide_eq_false hx];decide)]at h;exact h)
 subst g1;obtain⟨r,h1,h2⟩:=q13_.nt l x (fun r=>r=decide (x∈l)) ⟨_,g2,by rw[Ar4,am]⟩;rw[<-h1];exact h2
end Go.Own
