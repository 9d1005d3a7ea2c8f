/- What the functions answer. No conditions. -/
import Derived.Test.YtmiedlcblpiemaaGreatDoorRefuteSmallestLaw7
import Derived.Test.YtmiedlcblpiemaaGreatDoorRefuteSmallestLaw8
set_option linter.all false
open List renaming getElem?_eq_getElem->zA,mem_of_getElem?->zB,length_cons->zC,length_append->zD,getElem?_map->zE,length_map->zG,cons_append->zH,getElem_mem->zI,range->zL,length_filter_le->zN,append_assoc->zO,length_take->zQ,filterMap_cons->zR,mem_cons->zS,take_add_one->zV,getElem?_eq_none->zW,length_nil->zY,mem_filter->zZ,append_nil->yA,length_filterMap_le->yC,length_drop->yE,mem_append->yG,replicate->yI,mem_singleton->yK,filter_append->yL,flatMap_cons->yM,filter_cons->yP,take_of_length_le->yU,filterMap_append->yV,forall_mem_cons->yX,flatMap_append->xA,mem_filterMap->xC,filter_congr->xD,mem_flatMap->xE,take_length->xF,nil_append->xH,filter_map->xI,filter_nil->xK
open List.cons renaming injEq->zF
open Int renaming toNat_natCast->zK
open Nat renaming lt_of_le_of_lt->zM,pow_le_pow_right->zP,lt_of_lt_of_le->zT,zero_le->zX,le_trans->yB,or_lt_two_pow->yD,testBit_zero->yF,testBit_div_two->yH,testBit_two_pow_sub_one->yJ,mod_eq_of_lt->yN,not_lt_zero->yR,testBit_and->yS,testBit_lt_two_pow->yT,eq_of_testBit_eq->yW,mod_lt->yY,pos_of_ne_zero->xB,strongRecOn->xG,div_le_self->xJ
open Bool renaming eq_false_iff->zU,and_eq_true->yO,true_and->yZ
open Option renaming map_some->yQ
open Function renaming comp->xL
namespace Go.Own
def letB(x:Int):Bool:=decide (97<=x/\x<=122∨65<=x/\x<=90∨x=95)
def alnB(x:Int):Bool:=letB x || decide (48<=x/\x<=57)
def Asq:List UInt8:=[110,117,108,108]
theorem Bad:(⟨#[110,117,108,108]⟩:ByteArray).toList=Asq:=Bb5 (l:=Asq)
theorem Axe:(⟨#[]⟩:ByteArray).toList=[]:=Bb5 (l:=[])
def Abu:List UInt8->Bool
 |[]=>false
 |b::r=>decide (r.length<24)&&letB (u8i b)&&!decide (b::r=Asq)&&r.all fun b=>alnB (u8i b)
def Ahp(s:ByteArray):Bool:=Abu s.toList
namespace q48_
theorem spec{x : Int} : C x (letB x) := by
  obtain⟨r, h1, h2⟩ := enter x (fun r => r = letB x) (by
    unfold letB
    repeat' split
    all_goals first
      |(symm; rw[decide_eq_true_iff]; omega)
      | (by_cases h : x = 95
         · simp[h]
         · have : (x==95) = false := by simpa using h
           rw[this]; symm; rw[decide_eq_false_iff_not]; omega))
  rw[<-h1]; exact h2
end q48_
theorem Ax6{φ:Bool->Prop}{P:Prop}{x:Int}(h:if alnB x=true then P else φ false)(hl:¬letB x=true):if x<48 then φ false else if 57<x then φ false else P:=by
 have e:alnB x=decide (48<=x/\x<=57):=by unfold alnB;rw[zU.2 hl,Bool.false_or]
 rw[e]at h
 repeat' split
 .rw [if_neg (by rw[decide_eq_true_iff];omega)]at h;exact h
 .rw [if_neg (by rw[decide_eq_true_iff];omega)]at h;exact h
 .rw [if_pos (by rw[decide_eq_true_iff];omega)]at h;exact h
namespace q74_
theorem spec{s:ByteArray}:C s (Ahp s):=by
 obtain⟨r,h1,h2⟩:=enter s (fun r=>r=Ahp s) (by
  unfold Ahp;rw[Acn,Bad];cases hs:s.toList with
  |nil=>simp[Abu]
  |cons b t=>
   rw[if_neg (by simp;omega)]
   split
   .rename_i hn;have hn:24<=t.length:=by simp at hn;omega
    simp[Abu];omega
   .rename_i hn;have hn:t.length<24:=by simp at hn;omega
    refine⟨b,Aeb (by rw[hs];rfl),letB (u8i b),q48_.spec,?_⟩
    split
    .rename_i hb
     split
     .rename_i h0;simp[Abu,Asq,h0]
     .rename_i h0;refine Ami (l:=s.toList) (p:=fun b=>alnB (u8i b)) (L:=fun i=>L1 s i fun r=>r=Abu (b::t)) (φ:=fun r=>r=Abu (b::t)) ?_ ?_ ?_
      .intro h;apply L1_step;rw[Acn,if_neg (by omega)];exact h
      .intro k c hc hk h;apply L1_step;rw[Acn,if_pos (by omega)];have next:L1 s ((k+1:Nat):Int) (fun r=>r=Abu (b::t))->L2 s k fun r=>r=Abu (b::t):=fun h=>by
        apply L2_step;have hsl:s.toList.length=(b::t).length:=by rw[hs]
        simp at hsl;rw[Aa4 (by omega)];exact h
       refine⟨c,Aeb hc,_,q48_.spec,?_⟩
       split
       .rename_i hl;rw[if_pos (by unfold alnB;rw[hl];rfl)]at h;exact next h
       .rename_i hl;have h3:=Ax6 (φ:=fun r=>r=Abu (b::t)) (P:=L2 s k fun r=>r=Abu (b::t)) (by
         split
         .rename_i hh;rw[if_pos hh]at h;exact next h
         .rename_i hh;rw[if_neg hh]at h;exact h) hl
        refine⟨c,Aeb hc,?_⟩
        split
        .rename_i h4;rw[if_pos h4]at h3;exact h3
        .rename_i h4;rw[if_neg h4]at h3;exact⟨c,Aeb hc,h3⟩
      .rw [hs];have e:alnB (u8i b)=true:=by unfold alnB;rw[hb];rfl
       simp only[List.all_cons,e,yZ,Abu,hb,h0,decide_false,Bool.not_false,Bool.and_true];simp[hn]
    .rename_i hb
     simp[Abu,hb])
 rw[<-h1];exact h2
end q74_
namespace q104_
theorem two{s:ByteArray}{i:Int}{φ:Bool->Prop}{x:Int}(h:if letB x=true then L3 s i φ else if i=0 then φ false else if x<48 then φ false else if 57<x then φ false else L3 s i φ):L2 s i x (letB x) φ:=by
 apply L2_step;exact h
theorem spec{s : ByteArray} : C s (Ahp s) := by
  obtain⟨r, h1, h2⟩ := enter s (fun r => r = Ahp s) (by
    unfold Ahp;rw[Acn, Bad, Axe];cases hs : s.toList with
    |nil => simp[Abu]
    |cons b t =>
      rw[if_neg (by simp)]
      split
      · rename_i hn
        have hn : 24 <= t.length := by simp at hn; omega
        simp[Abu]; omega
      · rename_i hn
        have hn : t.length < 24 := by simp at hn; omega
        have hlen : s.toList.length = t.length + 1 := by rw[hs]; rfl
        split
        · rename_i h0
          simp[Abu, Asq, h0]
        · rename_i h0
          have body : ∀(k : Nat) c, s.toList[k]?=some c -> (if letB (u8i c) = true then L1 s ((k + 1 : Nat) : Int) (fun r => r = Abu (b :: t))else if(k : Int) = 0 then false = Abu (b :: t)else if(u8i c) < 48 then false = Abu (b :: t)else if 57 < (u8i c)then false = Abu (b :: t)else L1 s ((k + 1 : Nat) : Int) (fun r => r = Abu (b :: t))) -> L1 s k (fun r => r = Abu (b :: t)) := by
            intro k c hc h;have hk := (List.getElem?_eq_some_iff.1 hc).1;apply L1_step;rw[Acn, if_pos (by omega)];refine⟨c, Aeb hc, ?_⟩;have next : L1 s ((k + 1 : Nat) : Int) (fun r => r = Abu (b :: t)) -> L3 s k fun r => r = Abu (b :: t) := fun h => by
              apply L3_step;rw[Aa4 (by omega)];exact h
            have key : L2 s k (u8i c) (letB (u8i c)) fun r => r = Abu (b :: t) := by
              apply two
              split
              · rename_i hh; rw[if_pos hh]at h; exact next h
              · rename_i hh; rw[if_neg hh]at h
                split
                · rename_i h2; rw[if_pos h2]at h; exact h
                · rename_i h2; rw[if_neg h2]at h
                  split
                  · rename_i h3; rw[if_pos h3]at h; exact h
                  · rename_i h3; rw[if_neg h3]at h
                    split
                    · rename_i h4; rw[if_pos h4]at h; exact h
                    · rename_i h4; rw[if_neg h4]at h; exact next h
            have e : ∀v, v = letB (u8i c) -> L2 s k (u8i c) v fun r => r = Abu (b :: t) := by rintro _ rfl; exact key
            repeat' split
            all_goals apply e
            all_goals unfold letB
            all_goals first
              |(symm; rw[decide_eq_true_iff]; omega)
              | (by_cases h : u8i c = 95
                 · simp[h]
                 · have : (u8i c==95) = false := by simpa using h
                   rw[this]; symm; rw[decide_eq_false_iff_not]; omega)
          have h0s : s.toList[0]?=some b := by rw[hs]; rfl
          refine body 0 b h0s ?_
          split
          · rename_i hb
            have rest := Ami (l := t) (p := fun b => alnB (u8i b)) (L := fun i => L1 s (i + 1) fun r => r = Abu (b :: t)) (φ := fun r => r = Abu (b :: t)) ?_ ?_ ?_
            · simpa using rest
            · intro h
              apply L1_step;rw[Acn, if_neg (by omega)]; exact h
            · intro k c hc hk h
              have e1 : ((k : Nat) : Int) + 1 = ((k + 1 : Nat) : Int) := by omega
              rw[e1];refine body (k + 1) c (by rw[hs]; simpa using hc) ?_
              split
              · rename_i hl
                rw[if_pos (by unfold alnB; rw[hl]; rfl)]at h;exact h
              · rename_i hl
                rw[if_neg (by omega)];exact Ax6 (φ := fun r => r = Abu (b :: t)) h hl
            · simp[Abu, hb, h0, hn]
          · rename_i hb
            simp[Abu, hb])
  rw[<-h1]; exact h2
end q104_
def eqS(x a:ByteArray):Bool:=decide (a=x)
def Aly:List ByteArray->List ByteArray->Bool
 |_,[]=>true
 |pre,a::r=>Ahp a&&!pre.any (eqS a)&&Aly (pre++[a]) r
def Afo(l:List ByteArray):Bool:=Aly [] l
namespace q25_
theorem spec{l:List ByteArray}{x:ByteArray}(hn:l.length<Big):C l x (ixI (eqS x) l):=by
 obtain⟨r,h1,h2⟩:=enter l x (fun r=>r=ixI (eqS x) l) (by
  refine Aje (l:=l) (p:=eqS x) (L:=fun i=>L1 l x i _) (φ:=fun r=>r=ixI (eqS x) l) ?_ ?_ rfl
  .intro h;apply L1_step;rw[if_neg (by omega)];exact h
  .intro k a ha hk h;apply L1_step;rw[if_pos (by omega)];refine⟨a,Aau ha,?_⟩;rw[Aa4 (by unfold Big at hn;omega)]
   split
   .rename_i hh;rw[if_pos (by simp[eqS,Ajs.1 hh])]at h;exact h
   .rename_i hh;rw[if_neg (by simp only[eqS,decide_eq_true_eq];rintro rfl;exact hh rfl)]at h;exact h)
 rw[<-h1];exact h2
end q25_
theorem q23_.spec{l:List ByteArray}{x:ByteArray}(hn:l.length<Big):q23_.C l x (l.any (eqS x)):=by
 obtain⟨r,h1,h2⟩:=q23_.enter l x (fun r=>r=l.any (eqS x)) ⟨_,q25_.spec hn,by rw[Apg]⟩;rw[<-h1];exact h2
namespace q75_
theorem spec{l:List ByteArray}{x:ByteArray}(hn:l.length<Big):C l x (ixI (eqS x) l):=by
 obtain⟨r,h1,h2⟩:=enter l x (fun r=>r=ixI (eqS x) l) (by
  refine Aje (l:=l) (p:=eqS x) (L:=fun i=>L1 l x i _) (φ:=fun r=>r=ixI (eqS x) l) ?_ ?_ rfl
  .intro h;apply L1_step;rw[if_neg (by omega)];exact h
  .intro k a ha hk h;apply L1_step;rw[if_pos (by omega)];refine⟨a,Aau ha,?_⟩;rw[Aa4 (by unfold Big at hn;omega)]
   split
   .rename_i hh;rw[if_pos (by simp[eqS,Ajs.1 hh])]at h;exact h
   .rename_i hh;rw[if_neg (by simp only[eqS,decide_eq_true_eq];rintro rfl;exact hh rfl)]at h;exact h)
 rw[<-h1];exact h2
end q75_
theorem Asn{l : List ByteArray}{L : Int -> Prop}{P Q : Prop}(stop : P -> L (l.length : Int))
    (step : ∀(k : Nat) a, l[k]?=some a -> k < l.length -> (if Ahp a = true then(if(l.take k).any (eqS a) = true then Q else L ((k + 1 : Nat) : Int))else Q) -> L k) (h : Afo l = true -> P) (h' : Afo l = false -> Q) : L 0 := by
  have : ∀(r : List ByteArray)(k : Nat), l.drop k = r -> k <= l.length -> (Aly (l.take k) r = true -> P) -> (Aly (l.take k) r = false -> Q) -> L k := by
    intro r
    induction r with
    | nil => intro k hd hk h h'; have : k = l.length := by have := Abe hd; omega
             subst this; exact stop (h rfl)
    |cons a r ih =>
      intro k hd hk h h';have hlt := Abf hd;refine step k a (Ab0 hd) hlt ?_;have hn := ih (k + 1) (Aah hd) hlt;have e : l.take (k + 1) = l.take k ++ [a] := by rw[zV, Ab0 hd]; rfl
      rw[e]at hn;simp only[Aly]at h h'
      split
      · rename_i h1
        split
        · rename_i h2
          exact h' (by simp[h1, h2])
        · rename_i h2
          have h2 := zU.2 h2;exact hn (fun hh => h (by simp[h1, h2, hh])) (fun hh => h' (by simp[h1, h2, hh]))
      · rename_i h1
        have h1 := zU.2 h1;exact h' (by simp[h1])
  exact this l 0 rfl (zX _) h h'
theorem q58_.spec{l:List ByteArray}(hn:l.length<Big):q58_.C l (Afo l):=by
 obtain⟨r,h1,h2⟩:=q58_.enter l (fun r=>r=Afo l) (by
  refine Asn (l:=l) (L:=fun i=>q58_.L1 l i _) (P:=true=Afo l) (Q:=false=Afo l) ?_ ?_ Eq.symm Eq.symm
  .intro h;apply q58_.L1_step;rw[if_neg (by omega)];exact h
  .intro k a ha hk h;apply q58_.L1_step;rw[if_pos (by omega)];refine⟨a,Aau ha,_,q74_.spec,?_⟩
   split
   .rename_i h1;rw[if_pos h1]at h;refine⟨by omega,by omega,_,q75_.spec (by rw[zQ];omega),?_⟩;rw[zK,Nat.sub_zero,Aa4 (by unfold Big at hn;omega)];have e:(0<=ixI (eqS a) (l.take k))↔(l.take k).any (eqS a)=true:=by rw[<-Apg,decide_eq_true_iff]
    split
    .rename_i h2;rw[if_pos (e.1 h2)]at h;exact h
    .rename_i h2;rw[if_neg (fun hh=>h2 (e.2 hh))]at h;exact h
   .rename_i h1;rw[if_neg h1]at h;exact h)
 rw[<-h1];exact h2
def Aay(v:api_Value):Bool:=decide (v.Kind=0/\v.Num=0/\v.Str.toList=[]∨v.Kind=1/\v.Str.toList=[]∨v.Kind=2/\v.Num=0/\v.Str.toList.length<=200∨v.Kind=3/\1<=v.Num/\v.Str.toList=[])
theorem At7{v : api_Value}{φ : Bool -> Prop}(h : φ (Aay v)) : (if v.Kind = 0 then(if v.Num = 0 then φ (v.Str.toList==(⟨#[]⟩ : ByteArray).toList)else φ false)else(if v.Kind = 1 then φ (v.Str.toList==(⟨#[]⟩ : ByteArray).toList)else(if v.Kind = 2 then(if v.Num = 0 then φ (decide ((Adf v.Str) <= 200))else φ false)else(if v.Kind = 3 then(if 1 <= v.Num then φ (v.Str.toList==(⟨#[]⟩ : ByteArray).toList)else φ false)else φ false)))) := by
  have e : ∀b, b = Aay v -> φ b := by rintro _ rfl; exact h
  have e0 : (v.Str.toList==(⟨#[]⟩ : ByteArray).toList) = decide (v.Str.toList = []) := by
    rw[Axe];by_cases h : v.Str.toList = []
    · simp[h]
    · simp[h]
  rw[e0, Acn]
  repeat' split
  all_goals apply e
  all_goals unfold Aay
  all_goals first
    |(rw[decide_eq_decide]; omega)
    |(symm; rw[decide_eq_false_iff_not]; omega)
    | (rw [decide_eq_decide]; constructor
       · intro h; simp_all
       · intro h; simp_all)
theorem q112_.spec{v:api_Value}:q112_.C v (Aay v):=by
 obtain⟨r,h1,h2⟩:=q112_.enter v (fun r=>r=Aay v) (At7 (φ:=fun r=>r=Aay v) rfl);rw[<-h1];exact h2
theorem q57_.spec{v:api_Value}:q57_.C v (Aay v):=by
 obtain⟨r,h1,h2⟩:=q57_.enter v (fun r=>r=Aay v) (At7 (φ:=fun r=>r=Aay v) rfl);rw[<-h1];exact h2
def Adx(l:List api_Value):Bool:=l.all Aay
theorem q38_.spec{v:api_Value}:q38_.C v (!Aay v):=by
 obtain⟨r,h1,h2⟩:=q38_.enter v (fun r=>r=!Aay v) ⟨_,q112_.spec,rfl⟩;rw[<-h1];exact h2
namespace q2_
theorem spec{l:List api_Value}(hn:l.length<Big):C l (ixI (fun v=>!Aay v) l):=by
 obtain⟨r,h1,h2⟩:=enter l (fun r=>r=ixI (fun v=>!Aay v) l) (by
  refine Aje (l:=l) (p:=fun v=>!Aay v) (L:=fun i=>L1 l i _) (φ:=fun r=>r=ixI (fun v=>!Aay v) l) ?_ ?_ rfl
  .intro h;apply L1_step;rw[if_neg (by omega)];exact h
  .intro k a ha hk h;apply L1_step;rw[if_pos (by omega)];refine⟨a,Aau ha,_,q38_.spec,?_⟩;rw[Aa4 (by unfold Big at hn;omega)]
   exact h)
 rw[<-h1];exact h2
end q2_
theorem q0_.spec{l:List api_Value}(hn:l.length<Big):q0_.C l (!Adx l):=by
 obtain⟨r,h1,h2⟩:=q0_.enter l (fun r=>r=!Adx l) ⟨_,q2_.spec hn,by
  rw[Apg];unfold Adx;rw[List.any_eq_not_all_not];simp⟩
 rw[<-h1];exact h2
theorem q46_.spec{l:List api_Value}(hn:l.length<Big):q46_.C l (Adx l):=by
 obtain⟨r,h1,h2⟩:=q46_.enter l (fun r=>r=Adx l) ⟨_,q0_.spec hn,by
  show(!(!Adx l))=_
  rw[Bool.not_not]⟩
 rw[<-h1];exact h2
theorem q47_.spec{l:List api_Value}(hn:l.length<Big):q47_.C l (Adx l):=by
 obtain⟨r,h1,h2⟩:=q47_.enter l (fun r=>r=Adx l) (by
  refine Ami (l:=l) (p:=Aay) (L:=fun i=>q47_.L1 l i _) (φ:=fun r=>r=Adx l) ?_ ?_ rfl
  .intro h;apply q47_.L1_step;rw[if_neg (by omega)];exact h
  .intro k a ha hk h;apply q47_.L1_step;rw[if_pos (by omega)];refine⟨a,Aau ha,_,q57_.spec,?_⟩;rw[Aa4 (by unfold Big at hn;omega)]
   exact h)
 rw[<-h1];exact h2
def Acs(n:Nat):Int->List api_Row->Int
 |_,[]=>0
 |last,r::rs=>if r.ID<=last then 1 else if r.Values.length=n then(if Adx r.Values=true then Acs n r.ID rs else 1)else 6
def Ac0(t:api_Table):Int:=if Ahp t.Name=true then(if 16<t.Attrs.length then 3 else if 1000<t.Rows.length then 3 else if Afo t.Attrs=true then Acs t.Attrs.length 0 t.Rows else 1)else 1
theorem Aw2{n : Nat}{l : List api_Row}{L : Int -> Int -> Prop}{φ : Int -> Prop}(stop : ∀last, φ 0 -> L last (l.length : Int))
    (step : ∀(k : Nat) r last, l[k]?=some r -> k < l.length -> (if r.ID <= last then φ 1 else if r.Values.length = n then(if Adx r.Values = true then L r.ID ((k + 1 : Nat) : Int)else φ 1)else φ 6) -> L last k) (h : φ (Acs n 0 l)) : L 0 0 := by
  have : ∀(r : List api_Row)(k : Nat)(last : Int), l.drop k = r -> k <= l.length -> φ (Acs n last r) -> L last k := by
    intro r
    induction r with
    | nil => intro k last hd hk h; have : k = l.length := by have := Abe hd; omega
             subst this; exact stop _ h
    |cons a r ih =>
      intro k last hd hk h;have hlt := Abf hd;refine step k a last (Ab0 hd) hlt ?_;simp only[Acs]at h
      split
      · rename_i h1; rw[if_pos h1]at h; exact h
      · rename_i h1; rw[if_neg h1]at h
        split
        · rename_i h2; rw[if_pos h2]at h
          split
          · rename_i h3; rw[if_pos h3]at h; exact ih (k + 1) _ (Aah hd) hlt h
          · rename_i h3; rw[if_neg h3]at h; exact h
        · rename_i h2; rw[if_neg h2]at h; exact h
  exact this l 0 0 rfl (zX _) h
namespace q113_
theorem rows{t:api_Table}{φ:Int->Prop}(hr:t.Rows.length<=1000)(ha:t.Attrs.length<=16)(h:φ (Acs t.Attrs.length 0 t.Rows)):L2 t 0 0 φ:=by
 refine Aw2 (n:=t.Attrs.length) (l:=t.Rows) (L:=fun last i=>L2 t last i φ) (φ:=φ) ?_ ?_ h
 .intro last h;apply L2_step;rw[if_neg (by omega)];exact h
 .intro k r last hr hk h;apply L2_step;rw[if_pos (by omega)];refine⟨r,Aau hr,?_⟩
  split
  .rename_i h1;rw[if_pos h1]at h;exact h
  .rename_i h1;rw[if_neg h1]at h
   split
   .rename_i h2;have h2:r.Values.length=t.Attrs.length:=by omega
    rw[if_pos h2]at h;refine⟨_,q46_.spec (by unfold Big;omega),?_⟩;rw[Aa4 (by omega)];exact h
   .rename_i h2;rw[if_neg (by omega)]at h;exact h
theorem spec{t:api_Table}:C t (Ac0 t):=by
 obtain⟨r,h1,h2⟩:=enter t (fun r=>r=Ac0 t) (by
  refine⟨_,q104_.spec,?_⟩;unfold Ac0
  split
  .by_cases h1:16<t.Attrs.length
   .rw [if_pos (by omega),if_pos h1]
   .rw [if_neg (by omega),if_neg h1];by_cases h2:1000<t.Rows.length
    .rw [if_pos (by omega),if_pos h2]
    .rw [if_neg (by omega),if_neg h2];refine Asn (l:=t.Attrs) (L:=fun i=>L1 t i _) (P:=Acs t.Attrs.length 0 t.Rows=if Afo t.Attrs=true then Acs t.Attrs.length 0 t.Rows else 1) (Q:=(1:Int)=if Afo t.Attrs=true then Acs t.Attrs.length 0 t.Rows else 1) ?_ ?_ ?_ ?_
     .intro h;apply L1_step;rw[if_neg (by omega)];exact rows (φ:=fun r=>r=if Afo t.Attrs=true then Acs t.Attrs.length 0 t.Rows else 1) (by omega) (by omega) h
     .intro k a ha hk h;apply L1_step;rw[if_pos (by omega)];refine⟨a,Aau ha,_,q104_.spec,?_⟩
      split
      .rename_i h1;rw[if_pos h1]at h;refine⟨by omega,by omega,_,q23_.spec (by rw[zQ];unfold Big;omega),?_⟩;rw[zK,Nat.sub_zero,Aa4 (by omega)];exact h
      .rename_i h1;rw[if_neg h1]at h;exact h
     .intro h;rw[if_pos h]
     .intro h;rw[if_neg (by rw[h];decide)]
  .rfl)
 rw[<-h1];exact h2
end q113_
namespace q59_
theorem rows{t:api_Table}{φ:Int->Prop}(hr:t.Rows.length<=1000)(ha:t.Attrs.length<=16)(h:φ (Acs t.Attrs.length 0 t.Rows)):L1 t 0 0 φ:=by
 refine Aw2 (n:=t.Attrs.length) (l:=t.Rows) (L:=fun last i=>L1 t last i φ) (φ:=φ) ?_ ?_ h
 .intro last h;apply L1_step;rw[if_neg (by omega)];exact h
 .intro k r last hr hk h;apply L1_step;rw[if_pos (by omega)];refine⟨r,Aau hr,?_⟩
  split
  .rename_i h1;rw[if_pos h1]at h;exact h
  .rename_i h1;rw[if_neg h1]at h
   split
   .rename_i h2;have h2:r.Values.length=t.Attrs.length:=by omega
    rw[if_pos h2]at h;refine⟨_,q47_.spec (by unfold Big;omega),?_⟩;rw[Aa4 (by omega)];exact h
   .rename_i h2;rw[if_neg (by omega)]at h;exact h
theorem spec{t:api_Table}:C t (Ac0 t):=by
 obtain⟨r,h1,h2⟩:=enter t (fun r=>r=Ac0 t) (by
  refine⟨_,q74_.spec,?_⟩;unfold Ac0
  split
  .by_cases h1:16<t.Attrs.length
   .rw [if_pos (by omega),if_pos h1]
   .rw [if_neg (by omega),if_neg h1];by_cases h2:1000<t.Rows.length
    .rw [if_pos (by omega),if_pos h2]
    .rw [if_neg (by omega),if_neg h2];refine⟨_,q58_.spec (by unfold Big;omega),?_⟩
     split
     .exact rows (φ:=fun r=>r=Acs t.Attrs.length 0 t.Rows) (by omega) (by omega) rfl
     .rfl
  .rfl)
 rw[<-h1];exact h2
end q59_
namespace q76_
theorem loop{φ:List Int->Prop}:∀(n:Nat)(acc:List Int),n<2^32->acc.length+(Aag n).length<=1000->φ (acc++(Aag n).map fun(i:Nat)=>(i:Int))->L1 n acc φ:=by
 intro n
 induction n using xG with
 |_ n ih=>
  intro acc hn hl h;apply L1_step;by_cases h0:n=0
  .subst h0;rw[Azg]at h;rw[if_pos (by omega)];simpa using h
  .rw [if_neg (by omega)];rw[Azf h0 hn]at hl h;simp only[zC]at hl;refine⟨by omega,by omega,?_⟩;have e1:IntKind.wrap .u32 ((n:Int)-1)=((n-1:Nat):Int):=by
    have:(n:Int)-1=((n-1:Nat):Int):=by omega
    rw[this];exact Acz (k:=.u32) (by simp only[top];omega)
   rw[e1,Ajr (k:=.u32) (by simpa[top]using hn) (by simp only[top];omega)];refine ih _ (Bfh h0) _ (zM Nat.and_le_left hn) (by rw[zD,List.length_singleton];omega) ?_;have e2:tz32 (n:Int)=((Aci n 32 0:Nat):Int):=by unfold tz32;rw[zK]
   rw[e2];simpa using h
theorem spec{n:Nat}(hn:n<2^32):C n ((Aag n).map fun(i:Nat)=>(i:Int)):=by
 obtain⟨r,h1,h2⟩:=enter n (fun r=>r=(Aag n).map fun(i:Nat)=>(i:Int)) (loop n [] hn (by have:=Afz (n:=n);simp;omega) (by simp));rw[<-h1];exact h2
end q76_
namespace q77_
theorem loop{k:Nat}{φ:Int->Prop}(h:φ (Ad3 k)):∀(m i:Nat),i+m=min k 32->L1 k ((2^i-1:Nat):Int) i φ
 |0,i,hi=>by
  apply L1_step;have e:((2^i-1:Nat):Int)=(Ad3 k:Int):=by unfold Ad3;rw[<-hi,Nat.add_zero]
  rw[e]
  split
  .rw [if_neg (by omega)];exact h
  .exact h
 |m+1,i,hi=>by
  apply L1_step;rw[if_pos (by omega),if_pos (by omega)];refine⟨by omega,?_⟩;have hp:2^(i+1)<=2^32:=zP (by decide) (by omega);have h2:0<2^i:=xB (by simp);rw[Nat.pow_succ]at hp;rw[An8 (k:=.u32) (by simp only[top];omega),Aln (k:=.u32) (by simp only[top];omega) (by simp only[top];omega),Aa4 (by omega)];have e:(2^i-1) ||| 2^i=2^(i+1)-1:=by
   apply yW;intro j;rw[Nat.testBit_or,yJ,Nat.testBit_two_pow,yJ];by_cases h1:j<i
   .have:j<i+1:=by omega
    simp[h1,this]
   .by_cases h3:i=j
    .subst h3;simp
    .have:¬j<i+1:=by omega
     simp[h1,h3,this]
  rw[e];exact loop h m (i+1) (by omega)
theorem spec{k:Nat}:C k (Ad3 k):=by
 obtain⟨r,h1,h2⟩:=enter k (fun r=>r=(Ad3 k:Int)) (loop (φ:=fun r=>r=(Ad3 k:Int)) rfl (min k 32) 0 (by omega));rw[<-h1];exact h2
end q77_
namespace q91_
theorem spec{n i:Nat}(hn:n<2^32):C n i (n.testBit i):=by
 obtain⟨r,h1,h2⟩:=enter n i (fun r=>r=n.testBit i) (by
  rw[if_pos (by omega)]
  split
  .refine ⟨by omega,?_⟩;rw[Bhe (k:=.u32) (by simpa[top]using hn) (by decide)];cases n.testBit i<;>rfl
  .rw [yT (zT hn (zP (by decide) (by omega)))])
 rw[<-h1];exact h2
end q91_
end Go.Own

namespace Go.Own
theorem Afe{a b:Int}:cmpI a b=0↔a=b:=by
 unfold cmpI;repeat' split
 all_goals omega
theorem q78_.spec{a b:Int}:q78_.C a b (cmpI a b):=by
 obtain⟨r,h1,h2⟩:=q78_.enter a b (fun r=>r=cmpI a b) (by
  unfold cmpI;repeat' split
  all_goals first|rfl|omega)
 rw[<-h1];exact h2
def cmpL:List UInt8->List UInt8->Int
 |[],[]=>0
 |[],_::_=>-1
 |_::_,[]=>1
 |a::r,b::s=>if a=b then cmpL r s else cmpI (u8i a) (u8i b)
theorem Aut:∀{a b:List UInt8},cmpL a b=0↔a=b
 |[],[]=>by simp[cmpL]
 |[],_::_=>by simp[cmpL]
 |_::_,[]=>by simp[cmpL]
 |a::r,b::s=>by
  simp only[cmpL]
  split
  .rename_i h;subst h;rw[Aut];simp
  .rename_i h;rw[Afe,Am8];simp[h]
def cmpS(a b:ByteArray):Int:=cmpL a.toList b.toList
theorem Bfj:∀{a b:List UInt8},(a=[]∨b=[])->cmpI a.length b.length=cmpL a b
 |[],[],_=>rfl
 |[],_::r,_=>by
  simp only[cmpL,cmpI,zC,zY];rw[if_pos (by omega)]
 |_::r,[],_=>by
  simp only[cmpL,cmpI,zC,zY];rw[if_neg (by omega),if_pos (by omega)]
 |_::_,_::_,h=>by simp at h
namespace q42_
theorem loop{a b:ByteArray}{φ:Int->Prop}(hn:a.toList.length<Big):∀(r s:List UInt8)(k:Nat),a.toList.drop k=r->b.toList.drop k=s->k<=a.toList.length->k<=b.toList.length->φ (cmpL r s)->L1 a b k φ:=by
 have fin:∀(r s:List UInt8)(k:Nat),a.toList.drop k=r->b.toList.drop k=s->k<=a.toList.length->k<=b.toList.length->(r=[]∨s=[])->φ (cmpL r s)->L2 a b φ:=by
  intro r s k hr hs hk hk2 h0 h;apply L2_step;refine⟨_,q78_.spec,?_⟩;rw[Acn,Acn];have e:cmpI a.toList.length b.toList.length=cmpI r.length s.length:=by
   rw[<-hr,<-hs,yE,yE];unfold cmpI
   repeat' split
   all_goals omega
  rw[e,Bfj h0];exact h
 intro r
 induction r with
 |nil=>
  intro s k hr hs hk hk2 h;apply L1_step;have:=Abe hr;rw[Acn,if_neg (by omega)];exact fin _ _ k hr hs hk hk2 (.inl rfl) h
 |cons x r ih=>
  intro s k hr hs hk hk2 h;apply L1_step;have hlt:=Abf hr;rw[Acn,if_pos (by omega),Acn]
  match s,hs,h with
  |[],hs,h=>
   have:=Abe hs;rw[if_neg (by omega)];exact fin _ _ k hr hs hk hk2 (.inr rfl) h
  |y::s,hs,h=>
   have hlt2:=Abf hs;rw[if_pos (by omega)];refine⟨x,Aeb (Ab0 hr),y,Aeb (Ab0 hs),?_⟩;simp only[cmpL]at h
   split
   .rename_i he;rw[if_pos (Am8.1 he)]at h;rw[Aa4 (by unfold Big at hn;omega)];exact ih s (k+1) (Aah hr) (Aah hs) hlt hlt2 h
   .rename_i he;rw[if_neg (fun hh=>he (Am8.2 hh))]at h;refine⟨x,Aeb (Ab0 hr),y,Aeb (Ab0 hs),_,q78_.spec,?_⟩;have b1:=Az1 (b:=x);have b2:=Az1 (b:=y);rw[Ady (by omega) (by omega),Ady (by omega) (by omega)];exact h
theorem spec{a b:ByteArray}(hn:a.toList.length<Big):C a b (cmpS a b):=by
 obtain⟨r,h1,h2⟩:=enter a b (fun r=>r=cmpS a b) (loop hn a.toList b.toList 0 rfl rfl (by omega) (by omega) rfl);rw[<-h1];exact h2
end q42_
def cmpV(v w:api_Value):Int:=if cmpI v.Kind w.Kind=0 then(if cmpI v.Num w.Num=0 then cmpS v.Str w.Str else cmpI v.Num w.Num)else cmpI v.Kind w.Kind
theorem Auu{v w:api_Value}:cmpV v w=0↔v=w:=by
 obtain⟨k,n,s⟩:=v;obtain⟨k',n',s'⟩:=w;unfold cmpV cmpS;simp only[api_Value.mk.injEq]
 split
 .rename_i h1;rw[Afe]at h1
  split
  .rename_i h2;rw[Afe]at h2;rw[Aut,Ajs];simp[h1,h2]
  .rename_i h2;have h3:=h2;rw[Afe]at h3;simp[h2,h3]
 .rename_i h1;have h3:=h1;rw[Afe]at h3;simp[h1,h3]
theorem q43_.spec{v w:api_Value}(hn:v.Str.toList.length<Big):q43_.C v w (cmpV v w):=by
 obtain⟨r,h1,h2⟩:=q43_.enter v w (fun r=>r=cmpV v w) (by
  refine⟨_,q78_.spec,?_⟩;unfold cmpV
  split
  .refine ⟨_,q78_.spec,?_⟩
   split
   .exact ⟨_,q42_.spec hn,rfl⟩
   .rfl
  .rfl)
 rw[<-h1];exact h2
def Ard(l:List api_Value):Prop:=l.length<Big/\∀v∈l,v.Str.toList.length<Big
def Aeq:List api_Value->List api_Value->Int
 |[],[]=>0
 |[],_::_=>-1
 |_::_,[]=>1
 |a::r,b::s=>if cmpV a b=0 then Aeq r s else cmpV a b
theorem Amm:∀{a b:List api_Value},Aeq a b=0↔a=b
 |[],[]=>by simp[Aeq]
 |[],_::_=>by simp[Aeq]
 |_::_,[]=>by simp[Aeq]
 |a::r,b::s=>by
  simp only[Aeq]
  split
  .rename_i h;rw[Amm];rw[Auu]at h;simp[h]
  .rename_i h;have h2:=h;rw[Auu]at h2;simp[h,h2]
theorem Bde:∀{a b:List api_Value},(a=[]∨b=[])->cmpI a.length b.length=Aeq a b
 |[],[],_=>rfl
 |[],_::r,_=>by
  simp only[Aeq,cmpI,zC,zY];rw[if_pos (by omega)]
 |_::r,[],_=>by
  simp only[Aeq,cmpI,zC,zY];rw[if_neg (by omega),if_pos (by omega)]
 |_::_,_::_,h=>by simp at h
namespace q60_
theorem loop{a b:List api_Value}{φ:Int->Prop}(hn:Ard a):∀(r s:List api_Value)(k:Nat),a.drop k=r->b.drop k=s->k<=a.length->k<=b.length->φ (Aeq r s)->L1 a b k φ:=by
 have fin:∀(r s:List api_Value)(k:Nat),a.drop k=r->b.drop k=s->k<=a.length->k<=b.length->(r=[]∨s=[])->φ (Aeq r s)->L2 a b φ:=by
  intro r s k hr hs hk hk2 h0 h;apply L2_step;refine⟨_,q78_.spec,?_⟩;have e:cmpI a.length b.length=cmpI r.length s.length:=by
   rw[<-hr,<-hs,yE,yE];unfold cmpI
   repeat' split
   all_goals omega
  rw[e,Bde h0];exact h
 intro r
 induction r with
 |nil=>
  intro s k hr hs hk hk2 h;apply L1_step;have:=Abe hr;rw[if_neg (by omega)];exact fin _ _ k hr hs hk hk2 (.inl rfl) h
 |cons x r ih=>
  intro s k hr hs hk hk2 h;apply L1_step;have hlt:=Abf hr;rw[if_pos (by omega)]
  match s,hs,h with
  |[],hs,h=>
   have:=Abe hs;rw[if_neg (by omega)];exact fin _ _ k hr hs hk hk2 (.inr rfl) h
  |y::s,hs,h=>
   have hlt2:=Abf hs;rw[if_pos (by omega)];refine⟨x,Abb hr,y,Abb hs,_,q43_.spec (hn.2 x (zB (Ab0 hr))),?_⟩;simp only[Aeq]at h
   split
   .rename_i he;rw[if_pos he]at h;rw[Aa4 (by have:=hn.1;unfold Big at this;omega)];exact ih s (k+1) (Aah hr) (Aah hs) hlt hlt2 h
   .rename_i he;rw[if_neg he]at h;exact h
theorem spec{a b:List api_Value}(hn:Ard a):C a b (Aeq a b):=by
 obtain⟨r,h1,h2⟩:=enter a b (fun r=>r=Aeq a b) (loop hn a b 0 rfl rfl (by omega) (by omega) rfl);rw[<-h1];exact h2
end q60_
theorem q79_.spec{a b:List api_Value}(hn:Ard a):q79_.C a b (decide (a=b)):=by
 obtain⟨r,h1,h2⟩:=q79_.enter a b (fun r=>r=decide (a=b)) ⟨_,q60_.spec hn,by
  by_cases h:a=b
  .simp [h,Amm.2 rfl]
  .have:Aeq a b≠0:=fun hh=>h (Amm.1 hh)
   simp[h,this]⟩
 rw[<-h1];exact h2
def be:Nat->Nat->List Int
 |0,_=>[]
 |j+1,u=>((u / 2^(8*j)%256:Nat):Int)::be j u
theorem Ark:∀{j u},(be j u).length=j
 |0,_=>rfl
 |j+1,u=>by simp[be,Ark]
theorem Axc:∀{j u},∀x∈be j u,0<=x/\x<256
 |0,_,_,h=>by simp[be]at h
 |j+1,u,x,h=>by
  simp only[be,zS]at h;rcases h with rfl|h
  .omega
  .exact Axc x h
theorem Bd5:∀{j u v},be j u=be j v->u%2^(8*j)=v%2^(8*j)
 |0,u,v,_=>by simp[Nat.mod_one]
 |j+1,u,v,h=>by
  simp only[be,zF]at h;have ih:=Bd5 h.2;have e:2^(8*(j+1))=2^(8*j)*256:=by rw[Nat.mul_add,Nat.pow_add]
  rw[e,Nat.mod_mul,Nat.mod_mul,ih];have:u / 2^(8*j)%256=v / 2^(8*j)%256:=by omega
  rw[this]
def Ahg(n:Int):Nat:=(n%18446744073709551616).toNat ^^^ 9223372036854775808
theorem Ao8{n:Int}:Ahg n<2^64:=Nat.xor_lt_two_pow (by omega) (by decide)
theorem Bbl{m n:Int}(hm : -9223372036854775808<=m/\m<9223372036854775808)(hn : -9223372036854775808<=n/\n<9223372036854775808)(h:Ahg m=Ahg n):m=n:=by
 unfold Ahg at h;have h2:(m%18446744073709551616).toNat=(n%18446744073709551616).toNat:=by
  have:=congrArg (· ^^^ 9223372036854775808) h;simpa[Nat.xor_assoc]using this
 omega
namespace q105_
theorem loop{φ:List Int->Prop}{u:Nat}(hu:u<2^64):∀(j:Nat)(acc:List Int),j<=8->acc.length+j<=1000->φ (acc++be j u)->L1 acc u (8*(j:Int)-8) φ
 |0,acc,hj,hl,h=>by
  apply L1_step;rw[if_neg (by omega)];simpa[be]using h
 |j+1,acc,hj,hl,h=>by
  apply L1_step;rw[if_pos (by omega)];refine⟨by omega,by omega,?_⟩;have e1:8*((j+1:Nat):Int)-8=((8*j:Nat):Int):=by omega
  rw[e1,Adj (k:=.u64) (by simpa[top]using hu),IntKind.wrap_u8,Ady (by omega) (by omega)];have e2:((8*j:Nat):Int)-8=8*(j:Int)-8:=by omega
  rw[e2];refine loop hu j _ (by omega) (by simp;omega) ?_;have e3:((u / 2^(8*j):Nat):Int)%256=((u / 2^(8*j)%256:Nat):Int):=by omega
  rw[e3];simpa[be]using h
theorem spec{n:Int}{acc:List Int}(hl:acc.length<=900):C n acc (acc++be 8 (Ahg n)):=by
 obtain⟨r,h1,h2⟩:=enter n acc (fun r=>r=acc++be 8 (Ahg n)) (by
  have e:bXor .u64 (IntKind.wrap .u64 n) 9223372036854775808=(Ahg n:Int):=by
   have e1:IntKind.wrap .u64 n=(((n%18446744073709551616).toNat:Nat):Int):=by
    simp only[IntKind.wrap,IntKind.bits,IntKind.signed];simp;omega
   rw[e1];exact Bfc (k:=.u64) (b:=9223372036854775808) (by simp only[top];omega) (by simp only[top];omega)
  rw[e]
  exact loop Ao8 8 acc (by omega) (by omega) rfl)
 rw[<-h1];exact h2
end q105_
def esc:List UInt8->List Int
 |[]=>[]
 |b::r=>if u8i b=0 then 0::255::esc r else u8i b::esc r
theorem Bfn{l:List UInt8}{b:UInt8}:esc (l++[b])=esc l++esc [b]:=by
 induction l with
 |nil=>rfl
 |cons a l ih=>simp only[zH,esc,ih];split<;>rfl
theorem Akr:∀{l:List UInt8},∀x∈esc l,0<=x/\x<256
 |[],x,h=>by simp[esc]at h
 |b::r,x,h=>by
  simp only[esc]at h
  split at h
  .simp only[zS]at h;rcases h with rfl|rfl|h
   .omega
   .omega
   .exact Akr x h
  .simp only[zS]at h;rcases h with rfl|h
   .exact Az1
   .exact Akr x h
theorem Ape:∀{l:List UInt8},(esc l).length<=2*l.length
 |[]=>by simp[esc]
 |b::r=>by
  have:=Ape (l:=r);simp only[esc]
  split<;>simp only[zC]<;>omega
theorem Atq:∀{a b:List UInt8}{r s:List Int},esc a++(0::1::r)=esc b++(0::1::s)->a=b/\r=s
 |[],[],r,s,h=>by simpa[esc]using h
 |[],y::b,r,s,h=>by
  simp only[esc]at h
  split at h
  .simp at h
  .rename_i hy;simp only[xH,zH,zF]at h;exact absurd h.1.symm hy
 |x::a,[],r,s,h=>by
  simp only[esc]at h
  split at h
  .simp at h
  .rename_i hx;simp only[xH,zH,zF]at h;exact absurd h.1 hx
 |x::a,y::b,r,s,h=>by
  simp only[esc]at h
  split at h
  .rename_i hx
   split at h
   .rename_i hy;simp only[zH,zF,true_and]at h;obtain⟨h1,h2⟩:=Atq h;exact⟨by rw[h1,Am8.1 (hx.trans hy.symm)],h2⟩
   .rename_i hy;simp only[zH,zF]at h;exact absurd h.1.symm hy
  .rename_i hx
   split at h
   .rename_i hy;simp only[zH,zF]at h;exact absurd h.1 hx
   .rename_i hy;simp only[zH,zF]at h;obtain⟨h1,h2⟩:=Atq h.2;exact⟨by rw[h1,Am8.1 h.1],h2⟩
def keyJ(v:api_Value):List Int:=v.Kind::(if v.Kind=1∨v.Kind=3 then be 8 (Ahg v.Num)else if v.Kind=2 then esc v.Str.toList++[0,1]else[])
def Aki(v:api_Value):Prop:=-9223372036854775808<=v.Num/\v.Num<9223372036854775808
theorem Aeh{v:api_Value}(h:Aay v=true):v.Kind=0/\v.Num=0/\v.Str.toList=[]∨v.Kind=1/\v.Str.toList=[]∨v.Kind=2/\v.Num=0/\v.Str.toList.length<=200∨v.Kind=3/\1<=v.Num/\v.Str.toList=[]:=by
 simpa[Aay]using h
theorem As9{v:api_Value}(h:Aay v=true):∀x∈keyJ v,0<=x/\x<256:=by
 intro x hx;have hk:0<=v.Kind/\v.Kind<=3:=by rcases Aeh h with h|h|h|h<;>omega
 simp only[keyJ,zS]at hx;rcases hx with rfl|hx
 .omega
 .split at hx
  .exact Axc x hx
  .split at hx
   .rcases yG.1 hx with hx|hx
    .exact Akr x hx
    .simp at hx;rcases hx with rfl|rfl<;>omega
   .simp at hx
theorem Amx{v:api_Value}(h:Aay v=true):(keyJ v).length<=403:=by
 simp only[keyJ,zC]
 split
 .rw [Ark];omega
 .split
  .have:=Ape (l:=v.Str.toList);have:v.Str.toList.length<=200:=by
    rcases Aeh h with h|h|h|h
    .rw [h.2.2];simp
    .rw [h.2];simp
    .exact h.2.2
    .rw [h.2.2];simp
   simp;omega
  .simp
theorem Bg0{v w:api_Value}{r s:List Int}(hv:Aay v=true)(hw:Aay w=true)(nv:Aki v)(nw:Aki w)(h:keyJ v++r=keyJ w++s):v=w/\r=s:=by
 obtain⟨k,n,t⟩:=v;obtain⟨k',n',t'⟩:=w;simp only[keyJ,zH,zF]at h;obtain⟨rfl,h⟩:=h;have hv:=Aeh hv;have hw:=Aeh hw;simp only at hv hw;simp only[api_Value.mk.injEq,true_and];by_cases h1:k=1∨k=3
 .rw [if_pos h1,if_pos h1]at h;have h3:=List.append_inj h (by rw[Ark,Ark]);have h2:=Bd5 h3.1;rw[yN Ao8,yN Ao8]at h2;have e:=Bbl nv nw h2;simp only at e;refine⟨⟨e,?_⟩,h3.2⟩;rw[<-Ajs];have a1:t.toList=[]:=by rcases hv with h|h|h|h<;>first|exact h.2.2|exact h.2|omega
  have a2:t'.toList=[]:=by rcases hw with h|h|h|h<;>first|exact h.2.2|exact h.2|omega
  rw[a1,a2]
 .rw [if_neg h1,if_neg h1]at h;by_cases h2:k=2
  .rw [if_pos h2,if_pos h2,zO,zO]at h;obtain⟨e1,e2⟩:=Atq h;rw[Ajs]at e1;exact⟨⟨by omega,e1⟩,e2⟩
  .rw [if_neg h2,if_neg h2]at h;have a1:t.toList=[]:=by rcases hv with h|h|h|h<;>first|exact h.2.2|exact h.2|omega
   have a2:t'.toList=[]:=by rcases hw with h|h|h|h<;>first|exact h.2.2|exact h.2|omega
   exact⟨⟨by omega,by rw[<-Ajs,a1,a2]⟩,by simpa using h⟩
def keyW(v:api_Value):ByteArray:=Ako (keyJ v)
namespace q119_
theorem loop{v:api_Value}{φ:ByteArray×Int->Prop}(hk:v.Kind=2)(hs:v.Str.toList.length<=200)(h:φ (keyW v,0)):∀(r:List UInt8)(k:Nat),v.Str.toList.drop k=r->k<=v.Str.toList.length->L1 v (2::esc (v.Str.toList.take k)) k φ:=by
 intro r
 induction r with
 |nil=>
  intro k hd hk2;apply L1_step;have:=Abe hd;rw[Acn,if_neg (by omega),yU this];have hl:=Ape (l:=v.Str.toList);have e:keyJ v=(2::esc v.Str.toList)++[0,1]:=by simp[keyJ,hk]
  refine⟨by simp only[zC];omega,fun x hx=>?_,?_⟩
  .rcases yG.1 hx with hx|hx
   .rcases zS.1 hx with rfl|hx
    .omega
    .exact Akr x hx
   .simp at hx;rcases hx with rfl|rfl<;>omega
  .rw [<-e];exact h
 |cons b r ih=>
  intro k hd hk2;have hlt:=Abf hd;apply L1_step;rw[Acn,if_pos (by omega)];have hl:=Ape (l:=v.Str.toList.take k);rw[zQ]at hl;refine⟨b,Aeb (Ab0 hd),by simp only[zC];omega,b,Aeb (Ab0 hd),?_⟩;have ih:=ih (k+1) (Aah hd) hlt;have e:v.Str.toList.take (k+1)=v.Str.toList.take k++[b]:=by rw[zV,Ab0 hd];rfl
  rw[e,Bfn]at ih;have next:∀l,l=2::(esc (v.Str.toList.take k)++esc [b])->L4 v l k φ:=by
   rintro _ rfl;apply L4_step;rw[Aa4 (by omega)];exact ih
  split
  .rename_i h0;refine⟨by simp only[zD,zC,zY];omega,next _ ?_⟩;simp[esc,h0]
  .rename_i h0;exact next _ (by simp[esc,h0])
theorem spec{v:api_Value}(hv:Aay v=true):C v (keyW v,0):=by
 obtain⟨r,h1,h2⟩:=enter v (fun r=>r=(keyW v,0)) (by
  refine⟨_,q112_.spec,?_⟩;rw[if_pos hv];have hc:=Aeh hv;have hk:0<=v.Kind/\v.Kind<=3:=by rcases hc with h|h|h|h<;>omega
  have ek:IntKind.wrap .u8 v.Kind=v.Kind:=by rw[IntKind.wrap_u8];omega
  have two:∀b,(v.Kind=1∨v.Kind=3)->L2 v b fun r=>r=(keyW v,0):=by
   intro b hb;apply L2_step;rw[ek];have e:keyJ v=[v.Kind]++be 8 (Ahg v.Num):=by simp[keyJ,hb]
   refine⟨_,q105_.spec (by simp),?_,?_⟩
   .rw [<-e];exact As9 hv
   .rw [<-e];rfl
  have three:¬(v.Kind=1∨v.Kind=3)->L3 v fun r=>r=(keyW v,0):=by
   intro hb;apply L3_step;rw[ek]
   split
   .rename_i h2;have hs:v.Str.toList.length<=200:=by
     rcases hc with h|h|h|h
     .omega
     .omega
     .exact h.2.2
     .omega
    have:=loop (φ:=fun r=>r=(keyW v,0)) h2 hs rfl v.Str.toList 0 rfl (by omega);rw[h2];simpa[esc]using this
   .rename_i h2;refine⟨fun x hx=>by simp at hx;omega,?_⟩;simp[keyW,keyJ,hb,h2]
  split
  .rename_i h1;exact two _ (.inl h1)
  .rename_i h1
   split
   .rename_i h3;exact two _ (.inr h3)
   .rename_i h3;exact three (by omega))
 rw[<-h1];exact h2
end q119_
def b8(x:Int):UInt8:=UInt8.ofNat x.toNat
theorem Bk9{x y:Int}(hx:0<=x/\x<256)(hy:0<=y/\y<256)(h:b8 x=b8 y):x=y:=by
 unfold b8 at h;have:=congrArg UInt8.toNat h;simp at this;omega
theorem Asm:∀{l m:List Int},(∀x∈l,0<=x/\x<256)->(∀x∈m,0<=x/\x<256)->l.map b8=m.map b8->l=m
 |[],[],_,_,_=>rfl
 |[],_::_,_,_,h=>by simp at h
 |_::_,[],_,_,h=>by simp at h
 |x::l,y::m,h1,h2,h=>by
  simp only[List.map_cons,zF]at h;rw[Bk9 (h1 x (by simp)) (h2 y (by simp)) h.1,Asm (fun z hz=>h1 z (by simp[hz])) (fun z hz=>h2 z (by simp[hz])) h.2]
theorem Avi{v:api_Value}:(keyW v).data.toList=(keyJ v).map b8:=by
 unfold keyW Ako b8;simp
theorem Avj{v:api_Value}:(keyW v).size=(keyJ v).length:=by
 have:(keyW v).size=(keyW v).data.toList.length:=rfl;rw[this,Avi,zG]
def Ad5(l:List api_Value):List Int:=l.flatMap keyJ
theorem Aq6{l:List api_Value}(h:∀v∈l,Aay v=true):∀x∈Ad5 l,0<=x/\x<256:=by
 intro x hx;obtain⟨v,hv,hx⟩:=xE.1 hx;exact As9 (h v hv) x hx
theorem Avk:∀{l m:List api_Value},l.length=m.length->(∀v∈l,Aay v=true/\Aki v)->(∀v∈m,Aay v=true/\Aki v)->Ad5 l=Ad5 m->l=m
 |[],[],_,_,_,_=>rfl
 |[],_::_,h,_,_,_=>by simp at h
 |_::_,[],h,_,_,_=>by simp at h
 |v::l,w::m,hl,h1,h2,h=>by
  simp only[Ad5,yM]at h;have a:=h1 v (by simp);have b:=h2 w (by simp);obtain⟨e1,e2⟩:=Bg0 a.1 b.1 a.2 b.2 h;rw[e1,Avk (by simpa using hl) (fun z hz=>h1 z (by simp[hz])) (fun z hz=>h2 z (by simp[hz])) e2]
def Aba(l:List api_Value):ByteArray:=bstr ((Ad5 l).map b8)
theorem Aob{l m:List api_Value}(hl:l.length=m.length)(h1:∀v∈l,Aay v=true/\Aki v)(h2:∀v∈m,Aay v=true/\Aki v):Aba l=Aba m↔l=m:=by
 constructor
 .intro h;have h3:(Ad5 l).map b8=(Ad5 m).map b8:=by
   have:=congrArg ByteArray.toList h;unfold Aba at this
   rwa [Atj,Atj]at this
  exact Avk hl h1 h2 (Asm (Aq6 fun v hv=>(h1 v hv).1) (Aq6 fun v hv=>(h2 v hv).1) h3)
 .rintro rfl;rfl
def pick(l:List api_Value)(n:Nat):List api_Value:=(Aag n).filterMap fun i=>l[i]?
theorem Axt{α β:Type}{f g:α->Option β}:∀{l:List α},(∀a∈l,f a=g a)->l.filterMap f=l.filterMap g
 |[],_=>rfl
 |a::l,h=>by
  have ih:=Axt (l:=l) fun b hb=>h b (by simp[hb]);simp only[zR,h a (by simp),ih]
theorem Bd6{n k:Nat}(hn:n<2^32):(Aag n).filter (fun i=>decide (i<k+1))=(Aag n).filter (fun i=>decide (i<k))++if n.testBit k=true then[k]else[]:=by
 refine At2 (Agj.filter _) ?_ fun x=>?_
 .rw [List.pairwise_append];refine⟨Agj.filter _,by split<;>simp,fun a ha b hb=>?_⟩;have ha:=(zZ.1 ha).2
  split at hb
  .simp at hb ha;omega
  .simp at hb
 .simp only[zZ,yG,decide_eq_true_eq]
  split
  .rename_i h;rw[yK];constructor
   .rintro ⟨h1,h2⟩;by_cases hx:x<k
    .exact .inl ⟨h1,hx⟩
    .exact .inr (by omega)
   .rintro (⟨h1,h2⟩|rfl)
    .exact ⟨h1,by omega⟩
    .exact ⟨(Acm hn).2 h,by omega⟩
  .rename_i h;constructor
   .rintro ⟨h1,h2⟩;have:x≠k:=fun e=>h (e ▸ (Acm hn).1 h1);exact .inl ⟨h1,by omega⟩
   .rintro (⟨h1,h2⟩|h1)
    .exact ⟨h1,by omega⟩
    .simp at h1
namespace q49_
theorem spec{r:api_Row}{n:Nat}(hn:n<2^32)(hr:r.Values.length<=1000):C r n (pick r.Values n):=by
 obtain⟨q,h1,h2⟩:=enter r n (fun q=>q=pick r.Values n) (by
  have loop:∀k,k<=r.Values.length->L1 r n (((Aag n).filter fun i=>decide (i<k)).filterMap fun i=>r.Values[i]?) k fun q=>q=pick r.Values n:=by
   refine down ?_ ?_
   .apply L1_step;rw[if_neg (by omega)];unfold pick;rw[List.filterMap_filter];refine Axt fun i hi=>?_;by_cases h:i<r.Values.length
    .simp [h]
    .simp [h]
   .intro k hk h;apply L1_step;rw[if_pos (by omega)];have hget:=zA hk;have hlen:(((Aag n).filter fun i=>decide (i<k)).filterMap fun i=>r.Values[i]?).length<=32:=
     yB (yC _ _) (yB (zN _ _) Afz)
    rw[Bd6 hn,yV]at h;refine⟨_,q91_.spec hn,?_⟩;have next:∀l,l=(((Aag n).filter fun i=>decide (i<k)).filterMap fun i=>r.Values[i]?)++((if n.testBit k=true then[k]else[]).filterMap fun i=>r.Values[i]?)->L2 r n l k fun q=>q=pick r.Values n:=by
     rintro _ rfl;apply L2_step;rw[Aa4 (by omega)];exact h
    split
    .rename_i hb;exact⟨r.Values[k],Aau hget,by omega,next _ (by simp[hb,hget])⟩
    .rename_i hb;exact next _ (by simp[hb])
  have:=loop 0 (zX _);have e:(Aag n).filter (fun i=>decide (i<0))=[]:=by rw[List.filter_eq_nil_iff];simp
  rw[e]at this
  exact this)
 rw[<-h1];exact h2
end q49_
def Aex(a b:List api_Value)(n:Nat):Bool:=decide (pick a n=pick b n)
theorem Bh0{a b:List api_Value}(hl:a.length=b.length):∀{l:List Nat},(l.filterMap fun i=>a[i]?)=(l.filterMap fun i=>b[i]?)↔∀i∈l,a[i]?=b[i]?
 |[]=>by simp
 |k::l=>by
  have ih:=Bh0 (a:=a) (b:=b) hl (l:=l);by_cases h:k<a.length
  .have e1:=zA h;have e2:=zA (l:=b) (i:=k) (by omega);simp only[zR,e1,e2,zF,ih,yX,zJ]
  .have e1:a[k]?=none:=zW (by omega);have e2:b[k]?=none:=zW (by omega);simp only[zR,e1,e2,ih,yX,true_and]
theorem Bcz{a b:List api_Value}{n:Nat}(hn:n<2^32)(hl:a.length=b.length):Aex a b n=true↔∀i,n.testBit i=true->a[i]?=b[i]?:=by
 unfold Aex pick;rw[decide_eq_true_iff,Bh0 hl];constructor
 .exact fun h i hi=>h i ((Acm hn).2 hi)
 .exact fun h i hi=>h i ((Acm hn).1 hi)
theorem Afp{l:List api_Value}{n:Nat}:∀v∈pick l n,v∈l:=by
 intro v hv;obtain⟨i,_,hi⟩:=xC.1 hv;exact zB hi
theorem Ays{l:List api_Value}{n:Nat}:(pick l n).length<=32:=yB (yC _ _) Afz
theorem q61_.spec{a b:api_Row}{n:Nat}(hn:n<2^32)(ha:a.Values.length<=1000)(hb:b.Values.length<=1000)(hs:∀v∈a.Values,v.Str.toList.length<Big):q61_.C a b n (Aex a.Values b.Values n):=by
 obtain⟨q,h1,h2⟩:=q61_.enter a b n (fun q=>q=Aex a.Values b.Values n)
  ⟨_,q49_.spec hn ha,_,q49_.spec hn hb,_,q79_.spec ⟨by have:=Ays (l:=a.Values) (n:=n);unfold Big;omega,fun v hv=>hs v (Afp v hv)⟩,rfl⟩
 rw[<-h1];exact h2
structure TV(t:api_Table):Prop where
 name:Ahp t.Name=true
 na:t.Attrs.length<=16
 nr:t.Rows.length<=1000
 names:Afo t.Attrs=true
 rows:Acs t.Attrs.length 0 t.Rows=0
theorem Ad6{t:api_Table}:Ac0 t=0↔TV t:=by
 unfold Ac0;constructor
 .intro h
  split at h
  .split at h
   .cases h
   .split at h
    .cases h
    .split at h
     .rename_i h1 h2 h3 h4;exact⟨h1,by omega,by omega,h4,h⟩
     .cases h
  .cases h
 .intro h;rw[if_pos h.name,if_neg (by have:=h.na;omega),if_neg (by have:=h.nr;omega),if_pos h.names];exact h.rows
theorem Aot{n:Nat}:∀{l:List api_Row}{last:Int},Acs n last l=0->∀r∈l,r.Values.length=n/\(∀v∈r.Values,Aay v=true)/\last<r.ID
 |[],_,_,r,hr=>by cases hr
 |a::l,last,h,r,hr=>by
  simp only[Acs]at h
  split at h
  .cases h
  .split at h
   .split at h
    .rename_i h1 h2 h3;unfold Adx at h3;rw[List.all_eq_true]at h3;rcases zS.1 hr with rfl|hr
     .exact ⟨h2,h3,by omega⟩
     .obtain ⟨e1,e2,e3⟩:=Aot h r hr;exact⟨e1,e2,by omega⟩
    .cases h
   .cases h
theorem TV.len{t:api_Table}(h:TV t){r:api_Row}(hr:r∈t.Rows):r.Values.length=t.Attrs.length:=(Aot h.rows r hr).1
theorem TV.val{t:api_Table}(h:TV t){r:api_Row}(hr:r∈t.Rows):∀v∈r.Values,Aay v=true:=(Aot h.rows r hr).2.1
theorem Ap4{v:api_Value}(h:Aay v=true):v.Str.toList.length<=200:=by
 rcases Aeh h with h|h|h|h
 .rw [h.2.2];simp
 .rw [h.2];simp
 .exact h.2.2
 .rw [h.2.2];simp
def TNum(t:api_Table):Prop:=∀r∈t.Rows,∀v∈r.Values,Aki v
def Adl(t:api_Table)(n:Nat):List (List api_Value):=t.Rows.map fun r=>pick r.Values n
theorem Afq{t:api_Table}{n:Nat}:(Adl t n).length=t.Rows.length:=by simp[Adl]
theorem Bgi{t:api_Table}(ht:TV t){n i j:Nat}(hn:n<2^32)(hi:i<t.Rows.length)(hj:j<t.Rows.length):(Adl t n)[i]?=(Adl t n)[j]?↔∀k,n.testBit k=true->(t.Rows[i]'hi).Values[k]?=(t.Rows[j]'hj).Values[k]?:=by
 unfold Adl;rw[zE,zE,zA hi,zA hj];simp only[yQ,zJ];rw[<-Bcz hn (by rw[ht.len (zI hi),ht.len (zI hj)])];unfold Aex;rw[decide_eq_true_iff]
def OkP(t:api_Table)(l r i k:Nat):Prop:=(Adl t l)[i]?=(Adl t l)[k]?->(Adl t r)[i]?=(Adl t r)[k]?
def SatP(t:api_Table)(l r:Nat):Prop:=∀i k,i<t.Rows.length->k<i->OkP t l r i k
theorem SatP.all{t:api_Table}{l r:Nat}(h:SatP t l r){i k:Nat}(hi:i<t.Rows.length)(hk:k<t.Rows.length):OkP t l r i k:=by
 rcases Nat.lt_trichotomy i k with h1|h1|h1
 .exact fun e=>(h k i hk h1 e.symm).symm
 .subst h1;exact fun _=>rfl
 .exact h i k hi h1
theorem agr{t:api_Table}{n i k:Nat}(hi:i<t.Rows.length)(hk:k<t.Rows.length):Aex (t.Rows[i]).Values (t.Rows[k]).Values n=true↔(Adl t n)[i]?=(Adl t n)[k]?:=by
 unfold Adl Aex;rw[zE,zE,zA hi,zA hk];simp
def EqA(t:api_Table)(i k a:Nat):Prop:=(t.Rows[i]?.map fun r=>r.Values[a]?)=(t.Rows[k]?.map fun r=>r.Values[a]?)
instance (t:api_Table) (i k a:Nat):Decidable (EqA t i k a):=by unfold EqA;infer_instance
theorem Ayr{t:api_Table}(ht:TV t){n i j:Nat}(hn:n<2^32)(hi:i<t.Rows.length)(hj:j<t.Rows.length):(Adl t n)[i]?=(Adl t n)[j]?↔∀k,n.testBit k=true->EqA t i j k:=by
 rw[Bgi ht hn hi hj];unfold EqA;rw[zA hi,zA hj];simp only[yQ,zJ]
theorem q92_.spec{a b:Nat}(ha:a<2^32)(hb:b<2^32):q92_.C a b (decide (a &&& b=a)):=by
 obtain⟨r,h1,h2⟩:=q92_.enter a b (fun r=>r=decide (a &&& b=a)) (by
  rw[Ajr (k:=.u32) (by simpa[top]using ha) (by simpa[top]using hb)];by_cases h:a &&& b=a
  .simp [h]
  .have:¬((a &&& b:Nat):Int)=(a:Int):=by omega
   simp[h,this])
 rw[<-h1];exact h2
def FdOK(l:List api_FD):Prop:=∀d∈l,U32 d.Lhs/\U32 d.Rhs
def inU(n:Nat)(l r:Int):Bool:=decide (sN l<2^n)&&decide (sN r<2^n)
theorem Bh1{n:Nat}{l r:Int}(hl:U32 l)(hr:U32 r):(shrw .u32 (bOr .u32 l r) (n:Int)=0)↔inU n l r=true:=by
 rw[hl.eq,hr.eq,Aln hl.top hr.top,Adj (yD hl.top hr.top)];unfold inU;rw[yO,decide_eq_true_iff,decide_eq_true_iff];have e1:sN (sN l:Int)=sN l:=by unfold sN;omega
 have e2:sN (sN r:Int)=sN r:=by unfold sN;omega
 rw[e1,e2,<-Aww,<-Bfk];omega
theorem Bgt{a n:Nat}(ha:a<2^32)(hn:n<=32):(a &&& Ad3 n=a)↔a<2^n:=by
 rw[Bjy,Ayk];constructor
 .intro h i hi;have:=h i hi;rw[Akt,decide_eq_true_iff]at this;omega
 .intro h i hi;rw[Akt,decide_eq_true_iff];have:=h i hi;omega
theorem At3{n:Nat}{x:Int}(hn:n<=32)(hx:U32 x):q92_.C x (Ad3 n) (decide (sN x<2^n)):=by
 have:=q92_.spec (a:=sN x) (b:=Ad3 n) hx.lt Axy;rw[<-hx.eq]at this;have e:decide (sN x &&& Ad3 n=sN x)=decide (sN x<2^n):=by rw[decide_eq_decide];exact Bgt hx.lt hn
 rw[e]at this;exact this
def fdsE(n:Int)(l:List api_FD):Int:=if n<0∨16<n then 7 else if 64<l.length then 3 else if(l.all fun d=>inU n.toNat d.Lhs d.Rhs)=true then 0 else 1
theorem Amh{α:Type}{l:List α}{p:α->Bool}{L:Int->Prop}{φ:Int->Prop}(stop:φ 0->L (l.length:Int))
  (step:∀(k:Nat) a,l[k]?=some a->k<l.length->(if p a=true then L ((k+1:Nat):Int)else φ 1)->L k) (h:φ (if l.all p=true then 0 else 1)):L 0:=
 Ami (l:=l) (p:=p) (L:=L) (φ:=fun b=>φ (if b=true then 0 else 1)) (fun h=>stop (by simpa using h)) (fun k a ha hk h=>step k a ha hk (by simpa using h)) h
theorem q96_.spec{n:Int}{l:List api_FD}(hl:FdOK l):q96_.C n l (fdsE n l):=by
 obtain⟨r,h1,h2⟩:=q96_.enter n l (fun r=>r=fdsE n l) (by
  by_cases a:n<0∨16<n
  .have e:fdsE n l=7:=if_pos a;rw[e];by_cases b:n<0
   .rw [if_pos b]
   .rw [if_neg b,if_pos (by omega)]
  .rw [if_neg (by omega),if_neg (by omega)];by_cases b:64<l.length
   .have e:fdsE n l=3:=by unfold fdsE;rw[if_neg a,if_pos b]
    rw[e,if_pos (by omega)]
   .have e:fdsE n l=if(l.all fun d=>inU n.toNat d.Lhs d.Rhs)=true then 0 else 1:=by unfold fdsE;rw[if_neg a,if_neg b]
    rw[e,if_neg (by omega)]
    .obtain ⟨m,rfl⟩:∃m:Nat,n=m:=⟨n.toNat,by omega⟩
     refine Amh (l:=l) (p:=fun d=>inU m d.Lhs d.Rhs) (L:=fun i=>q96_.L1 m l i _) (φ:=fun r=>r=_) ?_ ?_ rfl
     .intro h;apply q96_.L1_step;rw[if_neg (by omega)];exact h
     .intro k d hd hk h;apply q96_.L1_step;rw[if_pos (by omega)];refine⟨d,Aau hd,by omega,?_⟩;have hd':=hl d (zB hd);have e:=Bh1 (n:=m) hd'.1 hd'.2;rw[Aa4 (by omega)]
      split
      .rename_i hh;rw[if_pos (e.1 hh)]at h;exact h
      .rename_i hh;rw[if_neg (fun h3=>hh (e.2 h3))]at h;exact h)
 rw[<-h1];exact h2
theorem q62_.spec{n:Int}{l:List api_FD}(hl:FdOK l):q62_.C n l (fdsE n l):=by
 obtain⟨r,h1,h2⟩:=q62_.enter n l (fun r=>r=fdsE n l) (by
  by_cases a:n<0∨16<n
  .have e:fdsE n l=7:=if_pos a;rw[e];by_cases b:n<0
   .rw [if_pos b]
   .rw [if_neg b,if_pos (by omega)]
  .rw [if_neg (by omega),if_neg (by omega)];by_cases b:64<l.length
   .have e:fdsE n l=3:=by unfold fdsE;rw[if_neg a,if_pos b]
    rw[e,if_pos (by omega)]
   .have e:fdsE n l=if(l.all fun d=>inU n.toNat d.Lhs d.Rhs)=true then 0 else 1:=by unfold fdsE;rw[if_neg a,if_neg b]
    rw[e,if_neg (by omega)]
    .obtain ⟨m,rfl⟩:∃m:Nat,n=m:=⟨n.toNat,by omega⟩
     refine⟨_,q77_.spec,?_⟩;refine Amh (l:=l) (p:=fun d=>inU m d.Lhs d.Rhs) (L:=fun i=>q62_.L1 l (Ad3 m) i _) (φ:=fun r=>r=_) ?_ ?_ rfl
     .intro h;apply q62_.L1_step;rw[if_neg (by omega)];exact h
     .intro k d hd hk h;apply q62_.L1_step;rw[if_pos (by omega)];have hd':=hl d (zB hd);refine⟨d,Aau hd,_,At3 (by omega) hd'.1,?_⟩;rw[Aa4 (by omega)];unfold inU at h
      split
      .rename_i hh;refine⟨_,At3 (by omega) hd'.2,?_⟩
       split
       .rename_i h3;rw[if_pos (by rw[hh,h3];rfl)]at h;exact h
       .rename_i h3;rw[if_neg (by rw[hh,yZ];exact h3)]at h;exact h
      .rename_i hh;rw[if_neg (by rw[zU.2 hh];simp)]at h;exact h)
 rw[<-h1];exact h2
theorem Bdk{n:Int}{l:List api_FD}(h:fdsE n l=0):0<=n/\n<=16:=by
 unfold fdsE at h
 split at h
 .cases h
 .omega
def Ah7(l:List api_MVD):Prop:=∀d∈l,U32 d.Lhs/\U32 d.Rhs
def basE(n:Int)(l:List api_FD)(m:List api_MVD):Int:=if fdsE n l=0 then(if 64<m.length then 3 else if(m.all fun d=>inU n.toNat d.Lhs d.Rhs)=true then 0 else 1)else fdsE n l
theorem q114_.spec{n:Int}{l:List api_FD}{m:List api_MVD}(hl:FdOK l)(hm:Ah7 m):q114_.C n l m (basE n l m):=by
 obtain⟨r,h1,h2⟩:=q114_.enter n l m (fun r=>r=basE n l m) (by
  refine⟨_,q96_.spec hl,?_⟩;unfold basE
  split
  .rename_i h0;have hn:=Bdk h0
   split
   .rw [if_pos (by omega)]
   .rw [if_neg (by omega)];obtain⟨q,rfl⟩:∃q:Nat,n=q:=⟨n.toNat,by omega⟩
    refine Amh (l:=m) (p:=fun d=>inU q d.Lhs d.Rhs) (L:=fun i=>q114_.L1 q m i _) (φ:=fun r=>r=_) ?_ ?_ rfl
    .intro h;apply q114_.L1_step;rw[if_neg (by omega)];exact h
    .intro k d hd hk h;apply q114_.L1_step;rw[if_pos (by omega)];refine⟨d,Aau hd,by omega,?_⟩;have hd':=hm d (zB hd);have e:=Bh1 (n:=q) hd'.1 hd'.2;rw[Aa4 (by omega)]
     split
     .rename_i hh;rw[if_pos (e.1 hh)]at h;exact h
     .rename_i hh;rw[if_neg (fun h3=>hh (e.2 h3))]at h;exact h
  .rfl)
 rw[<-h1];exact h2
theorem q50_.spec{n:Nat}{x:Int}(hn:n<=32)(hx:U32 x):q50_.C n x (decide (sN x<2^n)):=by
 obtain⟨r,h1,h2⟩:=q50_.enter n x (fun r=>r=decide (sN x<2^n)) ⟨_,q77_.spec,_,At3 hn hx,rfl⟩;rw[<-h1];exact h2
theorem q63_.spec{n:Int}{l:List api_FD}{m:List api_MVD}(hl:FdOK l)(hm:Ah7 m):q63_.C n l m (basE n l m):=by
 obtain⟨r,h1,h2⟩:=q63_.enter n l m (fun r=>r=basE n l m) (by
  refine⟨_,q62_.spec hl,?_⟩;unfold basE
  split
  .rename_i h0;have hn:=Bdk h0
   split
   .rw [if_pos (by omega)]
   .rw [if_neg (by omega)];obtain⟨q,rfl⟩:∃q:Nat,n=q:=⟨n.toNat,by omega⟩
    refine Amh (l:=m) (p:=fun d=>inU q d.Lhs d.Rhs) (L:=fun i=>q63_.L1 q m i _) (φ:=fun r=>r=_) ?_ ?_ rfl
    .intro h;apply q63_.L1_step;rw[if_neg (by omega)];exact h
    .intro k d hd hk h;apply q63_.L1_step;rw[if_pos (by omega)];have hd':=hm d (zB hd);refine⟨d,Aau hd,_,q50_.spec (by omega) hd'.1,?_⟩;rw[Aa4 (by omega)];unfold inU at h
     split
     .rename_i hh;refine⟨_,q50_.spec (by omega) hd'.2,?_⟩
      split
      .rename_i h3;rw[if_pos (by rw[hh,h3];rfl)]at h;exact h
      .rename_i h3;rw[if_neg (by rw[hh,yZ];exact h3)]at h;exact h
     .rename_i hh;rw[if_neg (by rw[zU.2 hh];simp)]at h;exact h
  .rfl)
 rw[<-h1];exact h2
theorem Ajm{t:api_Table}(ht:TV t){n i k:Nat}(hn:n<2^32)(hi:i<t.Rows.length)(hk:k<t.Rows.length):Aex (t.Rows[i]).Values (t.Rows[k]).Values n=true↔∀a,n.testBit a=true->EqA t i k a:=(agr hi hk).trans (Ayr ht hn hi hk)
def MixP(t:api_Table)(left i k:Nat):Prop:=∃j,j<t.Rows.length/\(∀a,left.testBit a=true->EqA t j i a)/\∀a,a<t.Attrs.length->left.testBit a=false->EqA t j k a
def MvP(t:api_Table)(l r:Nat):Prop:=∀i k,i<t.Rows.length->k<t.Rows.length->(∀a,l.testBit a=true->EqA t i k a)->MixP t (l ||| r) i k
theorem Aos{t:api_Table}(ht:TV t){n i k:Nat}(hn:n<2^32)(hi:i<t.Rows.length)(hk:k<t.Rows.length):q61_.C (t.Rows[i]) (t.Rows[k]) n (Aex (t.Rows[i]).Values (t.Rows[k]).Values n):=by
 have mi:=zI hi;have mk:=zI hk;have na:=ht.na;have la:=ht.len mi;have lb:=ht.len mk;exact q61_.spec hn (by omega) (by omega) fun v hv=>by have:=Ap4 (ht.val mi v hv);unfold Big;omega
theorem Ayw{n left:Nat}(hn:n<=16){P:Nat->Prop}:(∀a,(Acf (Ad3 n) left).testBit a=true->P a)↔∀a,a<n->left.testBit a=false->P a:=by
 constructor
 .intro h a ha hl;refine h a ?_;rw[Ah3,Akt,hl,decide_eq_true (by omega)];rfl
 .intro h a ha;rw[Ah3,Akt,yO,Bool.not_eq_true',decide_eq_true_eq]at ha;exact h a (by omega) ha.2
theorem q64_.spec{t:api_Table}(ht:TV t){left i k:Nat}(hl:left<2^32)(hi:i<t.Rows.length)(hk:k<t.Rows.length):∃b,q64_.C t (t.Rows[i]) (t.Rows[k]) left b/\(b=true↔MixP t left i k):=by
 have na:=ht.na;have nr:=ht.nr;have hf:Ad3 t.Attrs.length<2^32:=Axy;have hrest:Acf (Ad3 t.Attrs.length) left<2^32:=zM Aic hf;obtain⟨b,h1,h2⟩:=q64_.enter t (t.Rows[i]) (t.Rows[k]) left (fun b=>(b=true↔MixP t left i k)) (by
  have go:∀(d j:Nat),d+j=t.Rows.length->(∀q,q<j->¬((∀a,left.testBit a=true->EqA t q i a)/\∀a,a<t.Attrs.length->left.testBit a=false->EqA t q k a))->q64_.L1 t (t.Rows[i]) (t.Rows[k]) left (j:Int) (fun b=>(b=true↔MixP t left i k)):=by
   intro d
   induction d with
   |zero=>
    intro j hd hno;apply q64_.L1_step;rw[if_neg (by omega)];simp only[Bool.false_eq_true,false_iff];rintro⟨q,hq,h⟩;exact hno q (by omega) h
   |succ d ih=>
    intro j hd hno;have hj:j<t.Rows.length:=by omega
    have next:¬((∀a,left.testBit a=true->EqA t j i a)/\∀a,a<t.Attrs.length->left.testBit a=false->EqA t j k a)->q64_.L2 t (t.Rows[i]) (t.Rows[k]) left (j:Int) (fun b=>(b=true↔MixP t left i k)):=fun hn=>by
     apply q64_.L2_step;rw[Aa4 (by omega)];refine ih (j+1) (by omega) fun q hq=>?_;by_cases hqj:q=j
     .subst hqj;exact hn
     .exact hno q (by omega)
    apply q64_.L1_step;rw[if_pos (by omega)];refine⟨t.Rows[j],Aau (zA hj),_,Aos ht hl hj hi,?_⟩;by_cases ha:Aex (t.Rows[j]).Values (t.Rows[i]).Values left=true
    .rw [if_pos ha];refine⟨_,q77_.spec,?_⟩;rw[Ald (by simpa[top]using hf) (by simpa[top]using hl)];refine⟨_,Aos ht hrest hj hk,?_⟩;by_cases hb:Aex (t.Rows[j]).Values (t.Rows[k]).Values (Acf (Ad3 t.Attrs.length) left)=true
     .rw [if_pos hb];simp only[true_iff];exact⟨j,hj,(Ajm ht hl hj hi).1 ha,(Ayw na).1 ((Ajm ht hrest hj hk).1 hb)⟩
     .rw [if_neg hb];exact next fun h=>hb ((Ajm ht hrest hj hk).2 ((Ayw na).2 h.2))
    .rw [if_neg ha];exact next fun h=>ha ((Ajm ht hl hj hi).2 h.1)
  exact go t.Rows.length 0 rfl fun q hq=>absurd hq (yR q))
 exact⟨b,h2,h1⟩
open Classical in
noncomputable def mvB(t:api_Table)(l r:Nat):Bool:=decide (MvP t l r)
theorem Ajp{t:api_Table}{l r:Nat}:mvB t l r=true↔MvP t l r:=by unfold mvB;exact @decide_eq_true_iff _ (Classical.propDecidable _)
theorem orI{l r:Int}(hl:U32 l)(hr:U32 r):bOr .u32 l r=((sN l ||| sN r:Nat):Int):=by
 conv=>lhs;rw[hl.eq,hr.eq]
 exact Aln hl.top hr.top
theorem As4{n:Nat}{l r:Int}:inU n l r=true↔sN l ||| sN r<2^n:=by
 unfold inU;rw[yO,decide_eq_true_eq,decide_eq_true_eq,Aww]
noncomputable def Agc(t:api_Table)(m:api_MVD):Bool×Int:=if inU t.Attrs.length m.Lhs m.Rhs=true then(mvB t (sN m.Lhs) (sN m.Rhs),0)else(false,1)
namespace q65_
theorem loop{t:api_Table}(ht:TV t){m:api_MVD}(hl:U32 m.Lhs)(hr:U32 m.Rhs){φ:Bool×Int->Prop}(hf:¬MvP t (sN m.Lhs) (sN m.Rhs)->φ (false,0))(hp:MvP t (sN m.Lhs) (sN m.Rhs)->φ (true,0)):
  ∀(d i:Nat),d+i=t.Rows.length->(∀q k,q<i->k<t.Rows.length->(∀a,(sN m.Lhs).testBit a=true->EqA t q k a)->MixP t (sN m.Lhs ||| sN m.Rhs) q k)->L1 t m (i:Int) φ:=by
 have na:=ht.na;have nr:=ht.nr;have hor:sN m.Lhs ||| sN m.Rhs<2^32:=yD hl.lt hr.lt
 intro d
 induction d with
 |zero=>
  intro i hd hdone;apply L1_step;rw[if_neg (by omega)];exact hp fun q k hq hk=>hdone q k (by omega) hk
 |succ d ih=>
  intro i hd hdone;have hi:i<t.Rows.length:=by omega
  apply L1_step;rw[if_pos (by omega)];have inner:∀(c k:Nat),c+k=t.Rows.length->(∀q,q<k->(∀a,(sN m.Lhs).testBit a=true->EqA t i q a)->MixP t (sN m.Lhs ||| sN m.Rhs) i q)->L2 t m (i:Int) (k:Int) φ:=by
   intro c
   induction c with
   |zero=>
    intro k hc hk2;apply L2_step;rw[if_neg (by omega),Aa4 (by omega)];refine ih (i+1) (by omega) fun q k' hq hk'=>?_;by_cases hqi:q=i
    .subst hqi;exact hk2 k' (by omega)
    .exact hdone q k' (by omega) hk'
   |succ c ihc=>
    intro k hc hk2;have hk:k<t.Rows.length:=by omega
    have next:((∀a,(sN m.Lhs).testBit a=true->EqA t i k a)->MixP t (sN m.Lhs ||| sN m.Rhs) i k)->L3 t m (i:Int) (k:Int) φ:=fun hn=>by
     apply L3_step;rw[Aa4 (by omega)];refine ihc (k+1) (by omega) fun q hq=>?_;by_cases hqk:q=k
     .subst hqk;exact hn
     .exact hk2 q (by omega)
    apply L2_step;rw[if_pos (by omega)];have hag:=Aos ht hl.lt hi hk;rw[<-hl.eq]at hag;refine⟨t.Rows[i],Aau (zA hi),t.Rows[k],Aau (zA hk),_,hag,?_⟩;by_cases ha:Aex (t.Rows[i]).Values (t.Rows[k]).Values (sN m.Lhs)=true
    .rw [if_pos ha,orI hl hr];obtain⟨b,hb,hbi⟩:=q64_.spec ht hor hi hk;refine⟨b,hb,?_⟩;by_cases hbt:b=true
     .rw [if_pos hbt];exact next fun _=>hbi.1 hbt
     .rw [if_neg hbt];exact hf fun h=>hbt (hbi.2 (h i k hi hk ((Ajm ht hl.lt hi hk).1 ha)))
    .rw [if_neg ha];exact next fun h=>absurd ((Ajm ht hl.lt hi hk).2 h) ha
  exact inner t.Rows.length 0 rfl fun q hq=>absurd hq (yR q)
theorem spec{t:api_Table}(ht:TV t){m:api_MVD}(hl:U32 m.Lhs)(hr:U32 m.Rhs):C t m (Agc t m):=by
 have na:=ht.na;obtain⟨r,h1,h2⟩:=enter t m (fun r=>r=Agc t m) (by
  refine⟨_,q59_.spec,?_⟩;rw[if_pos (Ad6.2 ht)];have hw:=q50_.spec (n:=t.Attrs.length) (x:=bOr .u32 m.Lhs m.Rhs) (by omega) (by rw[orI hl hr];exact U32.of (yD hl.lt hr.lt));refine⟨_,hw,?_⟩;unfold Agc;have e:sN (bOr .u32 m.Lhs m.Rhs)=sN m.Lhs ||| sN m.Rhs:=by rw[orI hl hr,Asy]
  by_cases hin:inU t.Attrs.length m.Lhs m.Rhs=true
  .rw [if_pos (by rw[e,decide_eq_true_eq];exact As4.1 hin),if_pos hin];refine loop ht hl hr (fun hn=>?_) (fun hy=>by rw[Ajp.2 hy]) t.Rows.length 0 rfl fun q k hq=>absurd hq (yR q);cases hb:mvB t (sN m.Lhs) (sN m.Rhs)with
   |false=>rfl
   |true=>exact absurd (Ajp.1 hb) hn
  .rw [if_neg (by rw[e,decide_eq_true_eq];exact fun h=>hin (As4.2 h)),if_neg hin])
 rw[<-h1];exact h2
end q65_
theorem Aoc{l m:List api_Value}:Aba l++Aba m=Aba (l++m):=by
 rw[<-Ajs,Apc];unfold Aba;rw[Atj];simp[bstr,Ad5,xA]
theorem Bg1{v:api_Value}:keyW v=Aba [v]:=by
 unfold keyW Ako Aba bstr Ad5;simp[b8]
theorem Asb{l:List api_Value}:(Aba l).size=(Ad5 l).length:=by
 show(Aba l).data.size=_;unfold Aba bstr;rw[List.size_toArray,zG]
theorem Aoa:∀{l:List api_Value},(∀v∈l,Aay v=true)->(Ad5 l).length<=403*l.length
 |[],_=>by simp[Ad5]
 |a::l,h=>by
  have h1:=Aoa (l:=l) fun v hv=>h v (by simp[hv]);have h2:=Amx (h a (by simp));simp only[Ad5,yM,zD,zC]at h1⊢;omega
theorem Ayc{l:List api_Value}{n:Nat}(h:∀v∈l,Aay v=true):(Aba (pick l n)).size<=12896:=by
 rw[Asb];have h1:=Aoa (l:=pick l n) fun v hv=>h v (Afp v hv);have h2:=Ays (l:=l) (n:=n);omega
theorem Axu{a b:List api_Value}(hl:a.length=b.length):∀{l:List Nat},(l.filterMap fun i=>a[i]?).length=(l.filterMap fun i=>b[i]?).length
 |[]=>rfl
 |k::l=>by
  have ih:=Axu (a:=a) (b:=b) hl (l:=l);by_cases h:k<a.length
  .have e1:=zA h;have e2:=zA (l:=b) (i:=k) (by omega);simp only[zR,e1,e2,zC,ih]
  .have e1:a[k]?=none:=zW (by omega);have e2:b[k]?=none:=zW (by omega);simp only[zR,e1,e2,ih]
def ofP(t:api_Table)(n:Nat):api_Partition:=part (Adl t n)
theorem Bgd{t:api_Table}{n:Nat}(h:TV t)(hn:TNum t):part (t.Rows.map fun r=>Aba (pick r.Values n))=ofP t n:=by
 unfold ofP Adl;refine Bf0 (by simp) fun i j hi hj=>?_;rw[zG]at hi hj;rw[zE,zE,zE,zE,zA hi,zA hj];simp only[yQ,zJ];have m1:=zI hi;have m2:=zI hj;refine Aob (Axu (by rw[h.len m1,h.len m2])) (fun v hv=>?_) (fun v hv=>?_)
 .exact ⟨h.val m1 v (Afp v hv),hn _ m1 v (Afp v hv)⟩
 .exact ⟨h.val m2 v (Afp v hv),hn _ m2 v (Afp v hv)⟩
namespace q106_
theorem inner{t:api_Table}{n:Nat}{φ:api_Partition->Prop}{ks:List ByteArray}{k:Nat}{r:api_Row}(ht:TV t)(hn:n<2^t.Attrs.length)(hr:r∈t.Rows)(hk:k<1000)(hkk:k<ks.length)
  (h:L1 t ((Aag n).map fun(i:Nat)=>(i:Int)) (ks.set k (Aba (pick r.Values n))) ((k+1:Nat):Int) φ):∀j,j<=(Aag n).length ->
  L2 t ((Aag n).map fun(i:Nat)=>(i:Int)) ks k r ((Ad5 (((Aag n).take j).filterMap fun i=>r.Values[i]?)).map b8) k j φ:=by
 have hn32:n<2^32:=zT hn (zP (by decide) (by have:=ht.na;omega));have hl:=Afz (n:=n);refine down ?_ ?_
 .apply L2_step;rw[zG,if_neg (by omega),xF];refine⟨ks[k],by rw[Abk];exact zA hkk,?_⟩;rw[Aa4 (by omega)];have e:lset ks (k:Int) (Aba (pick r.Values n))=ks.set k (Aba (pick r.Values n)):=by simp[lset]
  unfold Aba pick at e h;rw[e];exact h
 .intro j hj h;apply L2_step;rw[zG,if_pos (by omega)];have hget:=zA hj;generalize(Aag n)[j]=i at hget;have hi:=(Acm hn32).1 (zB hget);have hilt:i<t.Attrs.length:=by
   false_or_by_contra
   rename_i hh;rw[yT (zT hn (zP (by decide) (by omega)))]at hi;cases hi
  have hrl:=ht.len hr;have hv:=zA (l:=r.Values) (i:=i) (by omega);generalize r.Values[i]'(by omega)=v at hv;have hval:=ht.val hr v (zB hv);refine⟨(i:Int),by rw[Abk,zE,hget];rfl,v,Aau hv,(keyW v,0),q119_.spec hval,?_⟩;have hsum:∀l:List api_Value,(∀v∈l,Aay v=true)->(Ad5 l).length<=403*l.length:=by
   intro l
   induction l with
   |nil=>simp[Ad5]
   |cons a l ih=>
    intro hh;have:=ih fun v hv=>hh v (by simp[hv]);have h2:=Amx (hh a (by simp));simp only[Ad5,yM,zD,zC]at this⊢;omega
  have h1:=hsum (((Aag n).take j).filterMap fun i=>r.Values[i]?) (fun v hv=>by
   obtain⟨i,_,hi⟩:=xC.1 hv
   exact ht.val hr v (zB hi))
  have h2:(((Aag n).take j).filterMap fun i=>r.Values[i]?).length<=32:=yB (yC _ _) (by rw[zQ];omega);have h3:=Amx hval;refine⟨?_,?_⟩
  .rw [zG];have:(keyW v).size=(keyJ v).length:=Avj;simp only[this];omega
  .rw [Aa4 (by omega)];have e:(((Aag n).take (j+1)).filterMap fun i=>r.Values[i]?)=(((Aag n).take j).filterMap fun i=>r.Values[i]?)++[v]:=by
    rw[zV,hget,yV];simp[hv]
   rw[e]at h;simp only[Ad5,xA,List.map_append]at h;rw[Avi];simpa[Ad5]using h
theorem spec{t:api_Table}{n:Nat}(ht:TV t)(hnum:TNum t)(hn:n<2^t.Attrs.length):C t n (ofP t n):=by
 have hn32:n<2^32:=zT hn (zP (by decide) (by have:=ht.na;omega));have hr:=ht.nr;obtain⟨q,h1,h2⟩:=enter t n (fun q=>q=ofP t n) (by
  refine⟨_,q76_.spec hn32,by omega,?_⟩;have loop:∀k,k<=t.Rows.length->L1 t ((Aag n).map fun(i:Nat)=>(i:Int)) ((t.Rows.take k).map (fun r=>Aba (pick r.Values n))++yI (t.Rows.length-k) (⟨#[]⟩:ByteArray)) k fun q=>q=ofP t n:=by
   refine down ?_ ?_
   .apply L1_step;rw[if_neg (by omega),xF,Nat.sub_self,List.replicate_zero,yA];refine⟨_,q30_.spec (by rw[zG];omega),?_⟩;rw[<-Bgd ht hnum];simp[part]
   .intro k hk h;apply L1_step;rw[if_pos (by omega)];have hget:=zA hk;generalize t.Rows[k]=r at hget;refine⟨r,Aau hget,?_⟩;have:=inner (t:=t) (n:=n) (φ:=fun q=>q=ofP t n) (ks:=(t.Rows.take k).map (fun r=>Aba (pick r.Values n))++yI (t.Rows.length-k) (⟨#[]⟩:ByteArray)) (k:=k) (r:=r) ht hn (zB hget) (by omega) (by simp[zQ];omega) (by
     have e:((t.Rows.take k).map (fun r=>Aba (pick r.Values n))++yI (t.Rows.length-k) (⟨#[]⟩:ByteArray)).set k (Aba (pick r.Values n))=(t.Rows.take (k+1)).map (fun r=>Aba (pick r.Values n))++yI (t.Rows.length-(k+1)) (⟨#[]⟩:ByteArray):=by
      have hl:((t.Rows.take k).map (fun r=>Aba (pick r.Values n))).length=k:=by rw[zG,zQ];omega
      obtain⟨m,hm⟩:∃m,t.Rows.length-k=m+1:=⟨t.Rows.length-k-1,by omega⟩
      rw[List.set_append_right _ _ (by omega),hl,Nat.sub_self,hm,List.replicate_succ,List.set_cons_zero,zV,hget];have:t.Rows.length-(k+1)=m:=by omega
      rw[this];simp
     rw[e];exact h) 0 (zX _)
    simpa[Ad5]using this
  have:=loop 0 (zX _)
  simpa using this)
 rw[<-h1];exact h2
end q106_
theorem q67_.spec{t:api_Table}{n:Nat}(hn:n<2^32):q67_.C t n (decide (n<2^t.Attrs.length)):=by
 obtain⟨q,h1,h2⟩:=q67_.enter t n (fun q=>q=decide (n<2^t.Attrs.length)) (by
  refine⟨by omega,?_⟩;have hn64:n<2^top .u64:=zT hn (by decide);rw[Acz hn64,Adj hn64];have:(((n / 2^t.Attrs.length:Nat):Int)=0)↔n<2^t.Attrs.length:=by
   have hp:0<2^t.Attrs.length:=xB (by simp);constructor
   .intro h;have h2:n / 2^t.Attrs.length=0:=by omega
    rw[Nat.div_eq_zero_iff]at h2;omega
   .intro h;rw[Nat.div_eq_of_lt h];rfl
  by_cases hh:n<2^t.Attrs.length
  .simp [hh,this.2 hh]
  .have h3:¬((n / 2^t.Attrs.length:Nat):Int)=0:=fun h=>hh (this.1 h);rw[decide_eq_false hh]
   simpa using h3)
 rw[<-h1];exact h2
def pop8(m:Nat):Nat:=((zL 8).filter fun i=>m.testBit i).length
theorem Ahf{n k:Nat}:((zL 8).map (·+k)).filter (fun i=>n.testBit i)=((zL 8).filter fun i=>(n / 2^k%256).testBit i).map (·+k):=by
 rw[xI];congr 1;refine xD fun i hi=>?_;have hi:=List.mem_range.1 hi;simp only[xL];rw[show(256:Nat)=2^8 from rfl,Nat.testBit_mod_two_pow,Nat.testBit_div_two_pow];simp[hi]
theorem Bes(n:Nat):szN n=pop8 (n%256)+pop8 (n / 2^8%256)+pop8 (n / 2^16%256)+pop8 (n / 2^24%256):=by
 have e:zL 32=(zL 8).map (·+0)++(zL 8).map (·+8)++(zL 8).map (·+16)++(zL 8).map (·+24):=by decide
 unfold szN Aag pop8;rw[e,yL,yL,yL,Ahf,Ahf,Ahf,Ahf];simp only[zD,zG,Nat.pow_zero,Nat.div_one]
theorem Bk8(a:Nat):a &&& 255=a%256:=Nat.and_two_pow_sub_one_eq_mod a 8
theorem Am2{m:Nat}:pop8 m<=8:=by
 unfold pop8;exact yB (zN _ _) (by simp)
theorem Apr{m:Nat}:u8i (UInt8.ofNat (pop8 m))=(pop8 m:Int):=by
 unfold u8i;rw[UInt8.toNat_ofNat'];have:=Am2 (m:=m);omega
theorem q31_.spec{n:Nat}(hn:n<2^32):q31_.C n (szN n:Int):=by
 obtain⟨r,h1,h2⟩:=q31_.enter n (fun r=>r=(szN n:Int)) (by
  have ht:n<2^top .u32:=by simpa[top]using hn
  have e24:=Adj (k:=.u32) (a:=n) (i:=24) ht;have e16:=Adj (k:=.u32) (a:=n) (i:=16) ht;have e8:=Adj (k:=.u32) (a:=n) (i:=8) ht;rw[show((24:Nat):Int)=24 from rfl]at e24;rw[show((16:Nat):Int)=16 from rfl]at e16;rw[show((8:Nat):Int)=8 from rfl]at e8;have a255:∀a:Nat,a<2^32->bAnd .u32 (a:Int) 255=((a%256:Nat):Int):=fun a ha=>by
   have:=Ajr (k:=.u32) (a:=a) (b:=255) (by simpa[top]using ha) (by simp only[top];omega);rw[show((255:Nat):Int)=255 from rfl]at this;rw[this,Bk8]
  rw[e24,e16,e8,a255 _ (zM (xJ _ _) hn),a255 _ (zM (xJ _ _) hn),a255 _ hn];have h24:n / 2^24<256:=by omega
  have em:n / 2^24=n / 2^24%256:=(yN h24).symm;have hs:=Bes n;rw[em];have m1:n / 2^24%256<256:=yY _ (by omega);have m2:n / 2^16%256<256:=yY _ (by omega);have m3:n / 2^8%256<256:=yY _ (by omega);have m4:n%256<256:=yY _ (by omega);generalize n / 2^24%256=q1 at *;generalize n / 2^16%256=q2 at *;generalize n / 2^8%256=q3 at *;generalize n%256=q4 at *;clear hn ht e24 e16 e8 a255 h24 em;refine⟨UInt8.ofNat (pop8 q1),⟨by omega,?_⟩,UInt8.ofNat (pop8 q2),⟨by omega,?_⟩,UInt8.ofNat (pop8 q3),⟨by omega,?_⟩,UInt8.ofNat (pop8 q4),⟨by omega,?_⟩,?_⟩
  .rw [zK];clear hs m2 m3 m4
   revert q1
   decide +kernel
  .rw [zK];clear hs m1 m3 m4
   revert q2
   decide +kernel
  .rw [zK];clear hs m1 m2 m4
   revert q3
   decide +kernel
  .rw [zK];clear hs m1 m2 m3
   revert q4
   decide +kernel
  .rw [Apr,Apr,Apr,Apr];have b1:=Am2 (m:=q1);have b2:=Am2 (m:=q2);have b3:=Am2 (m:=q3);have b4:=Am2 (m:=q4);have w8:∀a b:Nat,a+b<256->IntKind.wrap .u8 ((a:Int)+(b:Int))=((a+b:Nat):Int):=fun a b h=>by
    rw[show(a:Int)+(b:Int)=((a+b:Nat):Int) by omega];exact Acz (k:=.u8) (by simpa[top]using h)
   rw[w8 _ _ (by omega),w8 _ _ (by omega),w8 _ _ (by omega),hs];have:pop8 q1+pop8 q2+pop8 q3+pop8 q4=pop8 q4+pop8 q3+pop8 q2+pop8 q1:=by omega
   rw[this]
   exact Ady (by omega) (by omega))
 rw[<-h1];exact h2
theorem q107_.spec{x:Int}(hx:U32 x):q107_.C x (szN (sN x):Int):=by
 have:=q31_.spec hx.lt;rw[<-hx.eq]at this;obtain⟨r,h1,h2⟩:=q107_.enter x (fun r=>r=(szN (sN x):Int)) ⟨_,this,rfl⟩;rw[<-h1];exact h2
theorem Ax7(a b:Nat):(a &&& b) / 2=(a / 2) &&& (b / 2):=by
 apply yW;intro i;rw[yS,yH,yH,yH,yS]
theorem Bab(a b:Nat):(a &&& b)%2=1↔a%2=1/\b%2=1:=by
 have:=yS a b 0;rw[yF,yF,yF]at this;by_cases h1:a%2=1<;>by_cases h2:b%2=1<;>simp_all
theorem Baa(a b:Nat):a &&& b=2*((a / 2) &&& (b / 2))+(if a%2=1/\b%2=1 then 1 else 0):=by
 have h:=Nat.div_add_mod (a &&& b) 2;have h2:=Bab a b;rw[Ax7]at h
 split
 .rename_i hc;have:=h2.2 hc;omega
 .rename_i hc;have:¬(a &&& b)%2=1:=fun hh=>hc (h2.1 hh);omega
theorem Auf{a b:Nat}:a &&& b=a↔((a / 2) &&& (b / 2)=a / 2)/\(a%2=1->b%2=1):=by
 constructor
 .intro h;constructor
  .rw [<-Ax7,h]
  .intro h1;exact((Bab a b).1 (by rw[h];exact h1)).2
 .rintro ⟨h1,h2⟩;rw[Baa,h1];by_cases ha:a%2=1
  .rw [if_pos ⟨ha,h2 ha⟩];omega
  .rw [if_neg (fun h=>ha h.1)];omega
theorem Az0{a b:Nat}(h:a &&& b=a):a<=b:=by rw[<-h];exact Nat.and_le_right
theorem Bgj(x:Nat):∀(s y:Nat),x &&& s=x->0<x->y &&& s=y->y<x->y<=(x-1) &&& s:=by
 induction x using xG with
 |_ x ih=>
  intro s y hx h0 hy hlt;obtain⟨x1,x2⟩:=Auf.1 hx;obtain⟨y1,y2⟩:=Auf.1 hy;rw[Baa];by_cases hodd:x%2=1
  .have e:(x-1) / 2=x / 2:=by omega
   rw[e,x1];omega
  .have e:(x-1) / 2=x / 2-1:=by omega
   have e2:(x-1)%2=1:=by omega
   rw[e,e2];have:=ih (x / 2) (by omega) (s / 2) (y / 2) x1 (by omega) y1 (by omega);by_cases hy1:y%2=1
   .rw [if_pos ⟨rfl,y2 hy1⟩];omega
   .split<;>omega
def bsL:Nat->Nat->List Nat
 |0,_=>[0]
 |k+1,s=>(bsL k (s / 2)).flatMap fun y=>if s%2=1 then[2*y,2*y+1]else[2*y]
theorem Atk:∀{k s:Nat},s<2^k->∀n,n∈bsL k s↔n &&& s=n
 |0,s,hs,n=>by
  have:s=0:=by simpa using hs
  subst this;simp[bsL,eq_comm]
 |k+1,s,hs,n=>by
  have ih:=Atk (k:=k) (s:=s / 2) (by rw[Nat.pow_succ]at hs;omega);simp only[bsL,xE];rw[Auf];constructor
  .rintro ⟨y,hy,hn⟩;have hy:=(ih y).1 hy
   split at hn
   .rename_i h1;rcases zS.1 hn with rfl|hn
    .have:2*y / 2=y:=by omega
     rw[this];exact⟨hy,fun _=>h1⟩
    .have hn:=yK.1 hn;subst hn;have:(2*y+1) / 2=y:=by omega
     rw[this];exact⟨hy,fun _=>h1⟩
   .have hn:=yK.1 hn;subst hn;have:2*y / 2=y:=by omega
    rw[this];exact⟨hy,fun h=>by omega⟩
  .rintro ⟨h1,h2⟩;refine⟨n / 2,(ih _).2 h1,?_⟩
   split
   .by_cases hn:n%2=1
    .have:n=2*(n / 2)+1:=by omega
     simp;omega
    .simp;omega
   .rename_i hs1;have:¬n%2=1:=fun h=>hs1 (h2 h);simp;omega
theorem Baf:∀{k s:Nat},(bsL k s).Pairwise (·<·)
 |0,s=>by simp[bsL]
 |k+1,s=>by
  simp only[bsL];rw[List.pairwise_flatMap];refine⟨fun a _=>?_,(Baf (k:=k) (s:=s / 2)).imp fun {a b} hab x hx y hy=>?_⟩
  .split<;>simp
  .split at hx
   .rename_i h1;rw[if_pos h1]at hy;simp at hx hy;omega
   .rename_i h1;rw[if_neg h1]at hy;simp at hx hy;omega
def pcN(k s:Nat):Nat:=((zL k).filter fun i=>s.testBit i).length
theorem Bgh(k s:Nat):pcN (k+1) s=(if s%2=1 then 1 else 0)+pcN k (s / 2):=by
 unfold pcN;rw[List.range_succ_eq_map,yP,xI];have e:(zL k).filter ((fun i=>s.testBit i) ∘ Nat.succ)=(zL k).filter fun i=>(s / 2).testBit i:=by
  refine xD fun i _=>?_;simp only[xL,Nat.succ_eq_add_one,Nat.testBit_add_one]
 rw[e,yF];by_cases h:s%2=1
 .simp [h];omega
 .simp [h]
theorem Aw6(l:List Nat)(c:Nat):(l.map fun _=>c).sum=l.length*c:=by
 induction l with
 |nil=>simp
 |cons a l ih=>rw[List.map_cons,List.sum_cons,ih,zC,Nat.add_mul];omega
theorem Bag:∀{k s:Nat},(bsL k s).length=2^pcN k s
 |0,s=>by simp[bsL,pcN]
 |k+1,s=>by
  have ih:=Bag (k:=k) (s:=s / 2);rw[Bgh];simp only[bsL,List.length_flatMap];by_cases h:s%2=1
  .simp only[if_pos h];have e:((bsL k (s / 2)).map fun a=>[2*a,2*a+1].length).sum=(bsL k (s / 2)).length*2:=Aw6 _ 2;rw[e,ih,Nat.pow_add];omega
  .simp only[if_neg h];have e:((bsL k (s / 2)).map fun a=>[2*a].length).sum=(bsL k (s / 2)).length*1:=Aw6 _ 1;rw[e,ih];simp
namespace q35_
theorem inner{t:api_Table}{fd:api_FD}{l r:Nat}{φ:Bool->Prop}{i:Nat}(ht:TV t)(el:fd.Lhs=l)(er:fd.Rhs=r)(hl:l<2^32)(hr:r<2^32)(hi:i<t.Rows.length)(hf:¬SatP t l r->φ false)
  (h:(∀k,k<i->OkP t l r i k)->L1 t fd ((i+1:Nat):Int) φ):∀k,k<=i->((∀j,j<k->OkP t l r i j)->L2 t fd i k φ):=by
 have nr:=ht.nr;have na:=ht.na;refine down ?_ ?_
 .intro hk;apply L2_step;rw[if_neg (by omega),Aa4 (by omega)];exact h hk
 .intro k hk ih hj;apply L2_step;rw[if_pos (by omega)];have mi:=zI hi;have mk:=zI (l:=t.Rows) (n:=k) (by omega);have sv:∀v∈(t.Rows[i]).Values,v.Str.toList.length<Big:=fun v hv=>by have:=Ap4 (ht.val mi v hv);unfold Big;omega
  have la:=ht.len mi;have lb:=ht.len mk;have next:OkP t l r i k->L3 t fd i k φ:=fun ho=>by
   apply L3_step;rw[Aa4 (by omega)];refine ih fun j hjk=>?_;by_cases hjj:j=k
   .subst hjj;exact ho
   .exact hj j (by omega)
  refine⟨t.Rows[i],Aau (zA hi),t.Rows[k],Aau (zA (by omega)),_,by rw[el];exact q61_.spec hl (by omega) (by omega) sv,?_⟩
  split
  .rename_i h1;refine⟨_,by rw[er];exact q61_.spec hr (by omega) (by omega) sv,?_⟩
   split
   .rename_i h2;exact next fun _=>(agr hi (by omega)).1 h2
   .rename_i h2;refine hf fun hs=>h2 ?_;exact(agr hi (by omega)).2 (hs i k hi hk ((agr hi (by omega)).1 h1))
  .rename_i h1;exact next fun hh=>absurd ((agr hi (by omega)).2 hh) h1
theorem spec{t:api_Table}{fd:api_FD}{l r:Nat}(ht:TV t)(el:fd.Lhs=l)(er:fd.Rhs=r)(hl:l<2^32)(hr:r<2^32):∃b,C t fd b/\(b=true↔SatP t l r):=by
 obtain⟨b,h1,h2⟩:=enter t fd (fun b=>(b=true↔SatP t l r)) (by
  have nr:=ht.nr;have hf:¬SatP t l r->(false=true↔SatP t l r):=fun h=>by simp[h]
  have loop:∀i,i<=t.Rows.length->((∀a,a<i->∀k,k<a->OkP t l r a k)->L1 t fd i fun b=>(b=true↔SatP t l r)):=by
   refine down ?_ ?_
   .intro h;apply L1_step;rw[if_neg (by omega)];simp only[true_iff];exact fun i k hi hk=>h i hi k hk
   .intro i hi ih hh;apply L1_step;rw[if_pos (by omega)];refine inner ht el er hl hr hi hf (fun hk=>ih fun a ha k hka=>?_) 0 (zX _) (fun j hj=>by omega);by_cases hai:a=i
    .subst hai;exact hk k hka
    .exact hh a (by omega) k hka
  exact loop 0 (zX _) (fun a ha=>by omega))
 exact⟨b,h2,h1⟩
end q35_
theorem Bf5{t:api_Table}(hr:t.Rows.length<=1000){l r:Nat}:RefP (ofP t l) (ofP t r)↔SatP t l r:=by
 have hb:Akn (ofP t l) (ofP t r)=0:=by
  have v1:Acp (ofP t l)=true:=An3 (by rw[Afq];exact hr);have v2:Acp (ofP t r)=true:=An3 (by rw[Afq];exact hr);have e:(ofP t l).Rows=(ofP t r).Rows:=by simp[ofP,part,Afq]
  simp[Akn,v1,v2,e]
 have er:(ofP t l).Rows=(t.Rows.length:Int):=by simp[ofP,part,Afq]
 have key:∀(n i j:Nat),i<t.Rows.length->j<t.Rows.length->(Same (ofP t n) i j↔(Adl t n)[i]?=(Adl t n)[j]?):=fun n i j hi hj=>by
  unfold ofP;rw[Bed (by rw[Afq];omega) (by rw[Afq];omega),Abk,Abk]
 constructor
 .rintro ⟨_,h⟩ i k hi hk e;exact(key r i k hi (by omega)).1 (h i k (by omega) (by omega) ((key l i k hi (by omega)).2 e))
 .intro h;refine⟨hb,fun i j hi hj hs=>?_⟩;obtain⟨i,rfl⟩:∃n:Nat,i=n:=⟨i.toNat,by omega⟩
  obtain⟨j,rfl⟩:∃n:Nat,j=n:=⟨j.toNat,by omega⟩
  exact(key r i j (by omega) (by omega)).2 (h.all (by omega) (by omega) ((key l i j (by omega) (by omega)).1 hs))
def Ajy(t:api_Table)(l r:Nat):Int:=if Ac0 t=0 then(if l ||| r<2^t.Attrs.length then 0 else 6)else Ac0 t
theorem q85_.spec{t:api_Table}{fd:api_FD}{l r:Nat}(hnum:TNum t)(el:fd.Lhs=l)(er:fd.Rhs=r)(hl:l<2^32)(hr:r<2^32):∃q,q85_.C t fd q/\q.2=Ajy t l r/\(q.1=true↔Ajy t l r=0/\SatP t l r):=by
 obtain⟨q,h1,h2⟩:=q85_.enter t fd (fun q=>q.2=Ajy t l r/\(q.1=true↔Ajy t l r=0/\SatP t l r)) (by
  refine⟨_,q113_.spec,?_⟩;unfold Ajy
  split
  .rename_i h0;have ht:=Ad6.1 h0;rw[el,er,Aln (k:=.u32) (by simpa[top]using hl) (by simpa[top]using hr)];refine⟨_,q67_.spec (yD hl hr),?_⟩;by_cases hh:l ||| r<2^t.Attrs.length
   .rw [if_pos (decide_eq_true hh),if_pos hh];have hll:l<2^t.Attrs.length:=zM Nat.left_le_or hh;have hrr:r<2^t.Attrs.length:=zM Nat.right_le_or hh;have sm:∀m,Aii (ofP t m):=fun m=>Bc5 (by rw[Afq];exact ht.nr);obtain⟨b,hb,hbi⟩:=q52_.spec (sm l) (sm r);refine⟨_,q106_.spec ht hnum hll,_,q106_.spec ht hnum hrr,b,hb,rfl,?_⟩;rw[hbi,Bf5 ht.nr];simp
   .rw [if_neg (by simpa using hh),if_neg hh];simp
  .rename_i h0;simp[h0])
 exact⟨q,h2,h1⟩
theorem q45_.self{l:List ByteArray}(hn:l.length<Big):q45_.C l l true:=by
 obtain⟨r,h1,h2⟩:=q45_.enter l l (fun r=>r=true) (by
  rw[if_pos rfl];have:∀(r:List ByteArray)(k:Nat),l.drop k=r->q45_.L1 l l k (fun r=>r=true):=by
   intro r
   induction r with
   |nil=>
    intro k hd;have:=Abe hd;apply q45_.L1_step;rw[if_neg (by omega)]
   |cons s r ih=>
    intro k hd;have hlt:=Abf hd;apply q45_.L1_step;rw[if_pos (by omega)];refine⟨s,Abb hd,s,Abb hd,?_⟩;rw[if_pos rfl,Aa4 (by unfold Big at hn;omega)];exact ih (k+1) (Aah hd)
  exact this l 0 rfl)
 subst h1;exact h2
theorem q36_.self{a:api_Row}(h:Ard a.Values):q36_.C a a true:=by
 obtain⟨r,h1,h2⟩:=q36_.enter a a (fun r=>r=true) (by
  rw[if_pos rfl]
  exact⟨_,q79_.spec h,decide_eq_true rfl⟩)
 subst h1;exact h2
theorem q69_.self{t:api_Table}(ha:t.Attrs.length<Big)(hr:t.Rows.length<Big)(h:∀r∈t.Rows,Ard r.Values):q69_.C t t true:=by
 obtain⟨r,h1,h2⟩:=q69_.enter t t (fun r=>r=true) (by
  rw[if_pos rfl];refine⟨true,q45_.self ha,?_⟩;rw[if_pos rfl,if_pos rfl];have:∀(q:List api_Row)(k:Nat),t.Rows.drop k=q->q69_.L1 t t k (fun r=>r=true):=by
   intro q
   induction q with
   |nil=>
    intro k hd;have:=Abe hd;apply q69_.L1_step;rw[if_neg (by omega)]
   |cons s q ih=>
    intro k hd;have hlt:=Abf hd;apply q69_.L1_step;rw[if_pos (by omega)];refine⟨s,Abb hd,s,Abb hd,true,q36_.self (h s (zB (Ab0 hd))),?_⟩;rw[if_pos rfl,Aa4 (by unfold Big at hr;omega)];exact ih (k+1) (Aah hd)
  exact this t.Rows 0 rfl)
 subst h1;exact h2
def Bk5(r:api_Row):Prop:=(∀v∈r.Values,Aay v=true)/\r.Values.length<=16
def Bk4(t:api_Table):Prop:=t.Rows.length<=1000/\∀r∈t.Rows,Bk5 r/\r.Values.length=t.Attrs.length
theorem TV.rowsOK{t:api_Table}(h:TV t):Bk4 t:=⟨h.nr,fun r hr=>⟨⟨h.val hr,by rw[h.len hr];exact h.na⟩,h.len hr⟩⟩
theorem Bdx{l:List Int}{x:Int}(hl:l.length<=1000000):q28_.C l x (ixI (fun a=>decide (x=a)) l):=by
 obtain⟨q,h1,h2⟩:=q28_.enter l x (fun q=>q=ixI (fun a=>decide (x=a)) l) (by
  refine Aje (l:=l) (p:=fun a=>decide (x=a)) (L:=fun i=>q28_.L1 l x i _) (φ:=fun q=>q=ixI (fun a=>decide (x=a)) l) ?_ ?_ rfl
  .intro h;apply q28_.L1_step;rw[if_neg (by omega)];exact h
  .intro k a hk hlt h;apply q28_.L1_step;rw[if_pos (by omega)];refine⟨a,Aau hk,?_⟩;rw[Aa4 (by omega)];by_cases hx:x=a
   .rw [if_pos hx];rw[if_pos (decide_eq_true hx)]at h;exact h
   .rw [if_neg hx];rw[if_neg (by rw[decide_eq_true_iff];exact hx)]at h;exact h)
 rw[<-h1];exact h2
theorem Axk{l:List Int}{x:Int}(hl:l.length<=1000000):q24_.C l x (decide (x∈l)):=by
 obtain⟨q,h1,h2⟩:=q24_.enter l x (fun q=>q=decide (x∈l)) ⟨_,Bdx hl,by
  rw[Apg,Bool.eq_iff_iff,List.any_eq_true,decide_eq_true_iff];constructor
  .rintro ⟨y,hy,he⟩;rw[of_decide_eq_true he];exact hy
  .exact fun hy=>⟨x,hy,decide_eq_true rfl⟩⟩
 rw[<-h1];exact h2
theorem q103_.spec{r:api_Row}(h:r.Values.length<=1000):q103_.C r r:=by
 obtain⟨q,h1,h2⟩:=q103_.enter r (fun q=>q=r) ⟨by omega,rfl⟩;subst h1;exact h2
theorem q88_.spec{t:api_Table}{l:List api_Row}(ha:t.Attrs.length<=1000)(hl:l.length<=1000000)(hr:∀r∈l,r.Values.length<=1000):q88_.C t l ⟨t.Name,t.Attrs,l⟩:=by
 obtain⟨q,h1,h2⟩:=q88_.enter t l (fun q=>q=⟨t.Name,t.Attrs,l⟩) ⟨by omega,by
  have go:∀(r:List api_Row)(i:Nat)(acc:List api_Row),l.drop i=r->acc.length<=i->acc++r=l->q88_.L1 l t acc (i:Int) (fun q=>q=⟨t.Name,t.Attrs,l⟩):=by
   intro r
   induction r with
   |nil=>
    intro i acc hd hi h;have:=Abe hd;apply q88_.L1_step;rw[if_neg (by omega)];rw[yA]at h;rw[h]
   |cons x r ih=>
    intro i acc hd hi h;have hlt:=Abf hd;apply q88_.L1_step;rw[if_pos (by omega)];refine⟨x,Abb hd,_,q103_.spec (hr x (zB (Ab0 hd))),by omega,?_⟩;rw[Aa4 (by omega)];exact ih (i+1) _ (Aah hd) (by rw[zD];simp;omega) (by rw[zO];exact h)
  exact go l 0 [] rfl (by simp) rfl⟩
 subst h1;exact h2
def Acb(t:api_Table)(ids:List Int):api_Table:=⟨t.Name,t.Attrs,t.Rows.filter fun r=>decide (r.ID∈ids)⟩
theorem Bce{n:Nat}:∀{l:List api_Row}{a b:Int},Acs n b l=0->a<=b->Acs n a l=0
 |[],_,_,_,_=>rfl
 |r::l,a,b,h,hab=>by
  simp only[Acs]at h⊢;by_cases h1:r.ID<=b
  .rw [if_pos h1]at h;exact absurd h (by decide)
  .rw [if_neg h1]at h;rw[if_neg (by omega)];exact h
theorem Bem{n:Nat}{l m:List api_Row}(h:m.Sublist l):∀{last:Int},Acs n last l=0->Acs n last m=0:=by
 induction h with
 |slnil=>exact fun h=>h
 |cons r _ ih=>
  intro last h;simp only[Acs]at h
  split at h
  .exact absurd h (by decide)
  .rename_i h1
   split at h
   .split at h
    .exact Bce (ih h) (by omega)
    .exact absurd h (by decide)
   .exact absurd h (by decide)
 |cons_cons r _ ih=>
  intro last h;simp only[Acs]at h⊢
  split at h
  .exact absurd h (by decide)
  .rename_i h1;rw[if_neg h1]
   split at h
   .rename_i h2;rw[if_pos h2]
    split at h
    .rename_i h3;rw[if_pos h3];exact ih h
    .exact absurd h (by decide)
   .exact absurd h (by decide)
theorem Bgl{t:api_Table}(h:TV t){ids:List Int}:TV (Acb t ids) where
 name:=h.name
 na:=h.na
 nr:=yB (zN _ _) h.nr
 names:=h.names
 rows:=Bem List.filter_sublist h.rows
theorem Bei{t:api_Table}{ids:List Int}:∀r∈(Acb t ids).Rows,r∈t.Rows:=fun _ hr=>(zZ.1 hr).1
theorem Beh{t:api_Table}(h:TNum t){ids:List Int}:TNum (Acb t ids):=fun r hr=>h r (Bei r hr)
theorem q110_.spec{r:api_Row}(h:r.Values.length<=1000):q110_.C r r:=by
 obtain⟨q,h1,h2⟩:=q110_.enter r (fun q=>q=r) ⟨by omega,rfl⟩;subst h1;exact h2
theorem q117_.spec{t:api_Table}{l:List api_Row}(ha:t.Attrs.length<=1000)(hl:l.length<=1000000)(hr:∀r∈l,r.Values.length<=1000):q117_.C t l ⟨t.Name,t.Attrs,l⟩:=by
 obtain⟨q,h1,h2⟩:=q117_.enter t l (fun q=>q=⟨t.Name,t.Attrs,l⟩) ⟨by omega,by
  have go:∀(r:List api_Row)(i:Nat)(acc:List api_Row),l.drop i=r->acc.length<=i->acc++r=l->q117_.L1 l t acc (i:Int) (fun q=>q=⟨t.Name,t.Attrs,l⟩):=by
   intro r
   induction r with
   |nil=>
    intro i acc hd hi h;have:=Abe hd;apply q117_.L1_step;rw[if_neg (by omega)];rw[yA]at h;rw[h]
   |cons x r ih=>
    intro i acc hd hi h;have hlt:=Abf hd;apply q117_.L1_step;rw[if_pos (by omega)];refine⟨x,Abb hd,_,q110_.spec (hr x (zB (Ab0 hd))),by omega,?_⟩;rw[Aa4 (by omega)];exact ih (i+1) _ (Aah hd) (by rw[zD];simp;omega) (by rw[zO];exact h)
  exact go l 0 [] rfl (by simp) rfl⟩
 subst h1;exact h2
theorem q118_.spec{t:api_Table}{ids:List Int}(ht:TV t)(hi:ids.length<=1000000):q118_.C t ids ⟨t.Name,t.Attrs,t.Rows.filter fun r=>decide (r.ID∈ids)⟩:=by
 have hR:=ht.rowsOK;have hR1:=hR.1;have hle:=zN (fun r:api_Row=>decide (r.ID∈ids)) t.Rows;have hA:=ht.na;obtain⟨q,h1,h2⟩:=q118_.enter t ids (fun q=>q=⟨t.Name,t.Attrs,t.Rows.filter fun r=>decide (r.ID∈ids)⟩) (by
  have go:∀(r:List api_Row)(i:Nat)(acc:List api_Row),t.Rows.drop i=r->acc.length<=i->(acc++r.filter fun r=>decide (r.ID∈ids))=(t.Rows.filter fun r=>decide (r.ID∈ids))->q118_.L1 t ids acc (i:Int) (fun q=>q=⟨t.Name,t.Attrs,t.Rows.filter fun r=>decide (r.ID∈ids)⟩):=by
   intro r
   induction r with
   |nil=>
    intro i acc hd hi h;have:=Abe hd;rw[xK,yA]at h;apply q118_.L1_step;rw[if_neg (by omega),h];exact⟨_,q117_.spec (by omega) (by omega) (fun r hr=>by have:=(hR.2 r (zZ.1 hr).1).1.2;omega),rfl⟩
   |cons x r ih=>
    intro i acc hd hi2 h;have hlt:=Abf hd;apply q118_.L1_step;rw[if_pos (by omega)];refine⟨x,Abb hd,_,Axk hi,?_⟩;rw[yP]at h;by_cases hs:x.ID∈ids
    .rw [if_pos (decide_eq_true hs)]at h⊢;refine⟨by omega,?_⟩;apply q118_.L2_step;rw[Aa4 (by omega)];exact ih (i+1) _ (Aah hd) (by rw[zD];simp;omega) (by rw[zO];exact h)
    .rw [if_neg (by rw[decide_eq_true_iff];exact hs)]at h⊢;apply q118_.L2_step;rw[Aa4 (by omega)];exact ih (i+1) _ (Aah hd) (by omega) h
  exact go t.Rows 0 [] rfl (by simp) rfl)
 subst h1;exact h2
theorem q94_.spec{l:List Int}{x:Int}(hl:l.length<=1000000):q94_.C l x (decide (x∈l)):=by
 obtain⟨q,h1,h2⟩:=q94_.enter l x (fun q=>q=decide (x∈l)) (by
  have go:∀(r:List Int)(i:Nat),l.drop i=r->(∀y∈l.take i,y≠x)->q94_.L1 l x (i:Int) (fun q=>q=decide (x∈l)):=by
   intro r
   induction r with
   |nil=>
    intro i hd hn;have:=Abe hd;apply q94_.L1_step;rw[if_neg (by omega)];rw[yU this]at hn;exact(decide_eq_false fun hx=>hn x hx rfl).symm
   |cons y r ih=>
    intro i hd hn;have hlt:=Abf hd;apply q94_.L1_step;rw[if_pos (by omega)];refine⟨y,Abb hd,?_⟩;by_cases hy:y=x
    .rw [if_pos hy];subst hy;exact(decide_eq_true (zB (Ab0 hd))).symm
    .rw [if_neg hy,Aa4 (by omega)];refine ih (i+1) (Aah hd) fun z hz=>?_;rw[zV,Ab0 hd]at hz;rcases yG.1 hz with hz|hz
     .exact hn z hz
     .simp at hz;rw[hz];exact hy
  exact go l 0 rfl (fun y hy=>by simp at hy))
 subst h1;exact h2
theorem q89_.spec{t:api_Table}{ids:List Int}(ht:TV t)(hi:ids.length<=1000000):q89_.C t ids (Acb t ids):=by
 have hR:=ht.rowsOK;have hR1:=hR.1;have hle:=zN (fun r:api_Row=>decide (r.ID∈ids)) t.Rows;have hA:=ht.na;obtain⟨q,h1,h2⟩:=q89_.enter t ids (fun q=>q=Acb t ids) (by
  have go:∀(r:List api_Row)(i:Nat)(acc:List api_Row),t.Rows.drop i=r->acc.length<=i->(acc++r.filter fun r=>decide (r.ID∈ids))=(t.Rows.filter fun r=>decide (r.ID∈ids))->q89_.L1 t ids acc (i:Int) (fun q=>q=Acb t ids):=by
   intro r
   induction r with
   |nil=>
    intro i acc hd hi h;have:=Abe hd;rw[xK,yA]at h;apply q89_.L1_step;rw[if_neg (by omega),h];exact⟨_,q88_.spec (by omega) (by omega) (fun r hr=>by have:=(hR.2 r (zZ.1 hr).1).1.2;omega),rfl⟩
   |cons x r ih=>
    intro i acc hd hi2 h;have hlt:=Abf hd;apply q89_.L1_step;rw[if_pos (by omega)];refine⟨x,Abb hd,_,q94_.spec hi,?_⟩;rw[yP]at h;by_cases hs:x.ID∈ids
    .rw [if_pos (decide_eq_true hs)]at h⊢;refine⟨by omega,?_⟩;apply q89_.L2_step;rw[Aa4 (by omega)];exact ih (i+1) _ (Aah hd) (by rw[zD];simp;omega) (by rw[zO];exact h)
    .rw [if_neg (by rw[decide_eq_true_iff];exact hs)]at h⊢;apply q89_.L2_step;rw[Aa4 (by omega)];exact ih (i+1) _ (Aah hd) (by omega) h
  exact go t.Rows 0 [] rfl (by simp) rfl)
 subst h1;exact h2
end Go.Own
