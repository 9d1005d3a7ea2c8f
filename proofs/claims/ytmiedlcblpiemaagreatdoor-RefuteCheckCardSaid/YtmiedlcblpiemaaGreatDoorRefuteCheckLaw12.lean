/- What the functions answer. No conditions. -/
import Derived.Test.YtmiedlcblpiemaaGreatDoorRefuteCheckLaw7
import Derived.Test.YtmiedlcblpiemaaGreatDoorRefuteCheckLaw11
set_option linter.all false
namespace Go.Own
def letB (x:Int):Bool:=decide (97<=x/\x<=122∨65<=x/\x<=90∨x=95)
def alnB (x:Int):Bool:=letB x || decide (48<=x/\x<=57)
def Ari:List UInt8:=[110,117,108,108]
theorem Aye:((⟨#[110,117,108,108]⟩:ByteArray)).toList=Ari:=Az0 (l:=Ari)
theorem Bb0:((⟨#[]⟩:ByteArray)).toList=[]:=Az0 (l:=[])
def Abe:List UInt8->Bool
 | []=>false
 | b::r=>decide (r.length<24)&&letB (u8i b)&&!decide (b::r=Ari)&&r.all fun b=>alnB (u8i b)
def Ahv (s:ByteArray):Bool:=Abe s.toList
namespace q25_
theorem spec {x : Int} : C x (letB x) := by
  obtain ⟨r, h1, h2⟩ := enter x (fun r => r = letB x) (by
    unfold letB
    repeat' split
    all_goals first
      | (symm; rw [decide_eq_true_iff]; omega)
      | (by_cases h : x = 95
         · simp [h]
         · have : (x == 95) = false := by simpa using h
           rw [this]; symm; rw [decide_eq_false_iff_not]; omega))
  rw [← h1]; exact h2
end q25_
theorem Avg {φ:Bool->Prop} {P:Prop} {x:Int} (h:if alnB x=true then P else φ false) (hl:¬ letB x=true):if x<48 then φ false else if 57<x then φ false else P:=by
 have e:alnB x=decide (48<=x/\x<=57):=by unfold alnB;rw [Bool.eq_false_iff.2 hl,Bool.false_or]
 rw [e] at h
 repeat' split
 ·rw [if_neg (by rw [decide_eq_true_iff];omega)] at h;exact h
 ·rw [if_neg (by rw [decide_eq_true_iff];omega)] at h;exact h
 ·rw [if_pos (by rw [decide_eq_true_iff];omega)] at h;exact h
namespace q48_
theorem spec {s:ByteArray}:C s (Ahv s):=by
 obtain ⟨r,h1,h2⟩:=enter s (fun r=>r=Ahv s) (by
  unfold Ahv;rw [Ac7,Aye];cases hs:s.toList with
  | nil=>simp [Abe]
  | cons b t=>
   rw [if_neg (by simp;omega)]
   split
   ·rename_i hn;have hn:24<=t.length:=by simp at hn;omega
    simp [Abe];omega
   ·rename_i hn;have hn:t.length<24:=by simp at hn;omega
    refine ⟨b,Adu (by rw [hs];rfl),letB (u8i b),q25_.spec,?_⟩
    split
    ·rename_i hb
     split
     ·rename_i h0;simp [Abe,Ari,h0]
     ·rename_i h0;refine Alm (l:=s.toList) (p:=fun b=>alnB (u8i b)) (L:=fun i=>L1 s i fun r=>r=Abe (b::t)) (φ:=fun r=>r=Abe (b::t)) ?_ ?_ ?_
      ·intro h;apply L1_step;rw [Ac7,if_neg (by omega)];exact h
      ·intro k c hc hk h;apply L1_step;rw [Ac7,if_pos (by omega)];have next:L1 s ((k+1:Nat):Int) (fun r=>r=Abe (b::t))->L2 s k fun r=>r=Abe (b::t):=fun h=>by
        apply L2_step;have hsl:s.toList.length=(b::t).length:=by rw [hs]
        simp at hsl;rw [Aa4 (by omega)];exact h
       refine ⟨c,Adu hc,_,q25_.spec,?_⟩
       split
       ·rename_i hl;rw [if_pos (by unfold alnB;rw [hl];rfl)] at h;exact next h
       ·rename_i hl;have h3:=Avg (φ:=fun r=>r=Abe (b::t)) (P:=L2 s k fun r=>r=Abe (b::t)) (by
         split
         ·rename_i hh;rw [if_pos hh] at h;exact next h
         ·rename_i hh;rw [if_neg hh] at h;exact h) hl
        refine ⟨c,Adu hc,?_⟩
        split
        ·rename_i h4;rw [if_pos h4] at h3;exact h3
        ·rename_i h4;rw [if_neg h4] at h3;exact ⟨c,Adu hc,h3⟩
      ·rw [hs];have e:alnB (u8i b)=true:=by unfold alnB;rw [hb];rfl
       simp only [List.all_cons,e,Bool.true_and,Abe,hb,h0,decide_false,Bool.not_false,Bool.and_true];simp [hn]
    ·rename_i hb
     simp [Abe,hb])
 rw [← h1];exact h2
end q48_
namespace q64_
theorem two {s:ByteArray} {i:Int} {φ:Bool->Prop} {x:Int} (h:if letB x=true then L3 s i φ else if i=0 then φ false else if x<48 then φ false else if 57<x then φ false else L3 s i φ):L2 s i x (letB x) φ:=by
 apply L2_step;exact h
theorem spec {s : ByteArray} : C s (Ahv s) := by
  obtain ⟨r, h1, h2⟩ := enter s (fun r => r = Ahv s) (by
    unfold Ahv;rw [Ac7, Aye, Bb0];cases hs : s.toList with
    | nil => simp [Abe]
    | cons b t =>
      rw [if_neg (by simp)]
      split
      · rename_i hn
        have hn : 24 <= t.length := by simp at hn; omega
        simp [Abe]; omega
      · rename_i hn
        have hn : t.length < 24 := by simp at hn; omega
        have hlen : s.toList.length = t.length + 1 := by rw [hs]; rfl
        split
        · rename_i h0
          simp [Abe, Ari, h0]
        · rename_i h0
          have body : ∀ (k : Nat) c, s.toList[k]? = some c -> (if letB (u8i c) = true then L1 s ((k + 1 : Nat) : Int) (fun r => r = Abe (b :: t)) else if (k : Int) = 0 then false = Abe (b :: t) else if (u8i c) < 48 then false = Abe (b :: t) else if 57 < (u8i c) then false = Abe (b :: t) else L1 s ((k + 1 : Nat) : Int) (fun r => r = Abe (b :: t))) -> L1 s k (fun r => r = Abe (b :: t)) := by
            intro k c hc h;have hk := (List.getElem?_eq_some_iff.1 hc).1;apply L1_step;rw [Ac7, if_pos (by omega)];refine ⟨c, Adu hc, ?_⟩;have next : L1 s ((k + 1 : Nat) : Int) (fun r => r = Abe (b :: t)) -> L3 s k fun r => r = Abe (b :: t) := fun h => by
              apply L3_step;rw [Aa4 (by omega)];exact h
            have key : L2 s k (u8i c) (letB (u8i c)) fun r => r = Abe (b :: t) := by
              apply two
              split
              · rename_i hh; rw [if_pos hh] at h; exact next h
              · rename_i hh; rw [if_neg hh] at h
                split
                · rename_i h2; rw [if_pos h2] at h; exact h
                · rename_i h2; rw [if_neg h2] at h
                  split
                  · rename_i h3; rw [if_pos h3] at h; exact h
                  · rename_i h3; rw [if_neg h3] at h
                    split
                    · rename_i h4; rw [if_pos h4] at h; exact h
                    · rename_i h4; rw [if_neg h4] at h; exact next h
            have e : ∀ v, v = letB (u8i c) -> L2 s k (u8i c) v fun r => r = Abe (b :: t) := by rintro _ rfl; exact key
            repeat' split
            all_goals apply e
            all_goals unfold letB
            all_goals first
              | (symm; rw [decide_eq_true_iff]; omega)
              | (by_cases h : u8i c = 95
                 · simp [h]
                 · have : (u8i c == 95) = false := by simpa using h
                   rw [this]; symm; rw [decide_eq_false_iff_not]; omega)
          have h0s : s.toList[0]? = some b := by rw [hs]; rfl
          refine body 0 b h0s ?_
          split
          · rename_i hb
            have rest := Alm (l := t) (p := fun b => alnB (u8i b)) (L := fun i => L1 s (i + 1) fun r => r = Abe (b :: t)) (φ := fun r => r = Abe (b :: t)) ?_ ?_ ?_
            · simpa using rest
            · intro h
              apply L1_step;rw [Ac7, if_neg (by omega)]; exact h
            · intro k c hc hk h
              have e1 : ((k : Nat) : Int) + 1 = ((k + 1 : Nat) : Int) := by omega
              rw [e1];refine body (k + 1) c (by rw [hs]; simpa using hc) ?_
              split
              · rename_i hl
                rw [if_pos (by unfold alnB; rw [hl]; rfl)] at h;exact h
              · rename_i hl
                rw [if_neg (by omega)];exact Avg (φ := fun r => r = Abe (b :: t)) h hl
            · simp [Abe, hb, h0, hn]
          · rename_i hb
            simp [Abe, hb])
  rw [← h1]; exact h2
end q64_
def eqS (x a:ByteArray):Bool:=decide (a=x)
def Al3:List ByteArray->List ByteArray->Bool
 | _,[]=>true
 | pre,a::r=>Ahv a&&!pre.any (eqS a)&&Al3 (pre++[a]) r
def Af7 (l:List ByteArray):Bool:=Al3 [] l
namespace q9_
theorem spec {l:List ByteArray} {x:ByteArray} (hn:l.length<Big):C l x (ixI (eqS x) l):=by
 obtain ⟨r,h1,h2⟩:=enter l x (fun r=>r=ixI (eqS x) l) (by
  refine Alz (l:=l) (p:=eqS x) (L:=fun i=>L1 l x i _) (φ:=fun r=>r=ixI (eqS x) l) ?_ ?_ rfl
  ·intro h;apply L1_step;rw [if_neg (by omega)];exact h
  ·intro k a ha hk h;apply L1_step;rw [if_pos (by omega)];refine ⟨a,Ab2 ha,?_⟩;rw [Aa4 (by unfold Big at hn;omega)]
   split
   ·rename_i hh;rw [if_pos (by simp [eqS,Aiy.1 hh])] at h;exact h
   ·rename_i hh;rw [if_neg (by simp only [eqS,decide_eq_true_eq];rintro rfl;exact hh rfl)] at h;exact h)
 rw [← h1];exact h2
end q9_
theorem q8_.spec {l:List ByteArray} {x:ByteArray} (hn:l.length<Big):q8_.C l x (l.any (eqS x)):=by
 obtain ⟨r,h1,h2⟩:=q8_.enter l x (fun r=>r=l.any (eqS x)) ⟨_,q9_.spec hn,by rw [Aso]⟩;rw [← h1];exact h2
namespace q49_
theorem spec {l:List ByteArray} {x:ByteArray} (hn:l.length<Big):C l x (ixI (eqS x) l):=by
 obtain ⟨r,h1,h2⟩:=enter l x (fun r=>r=ixI (eqS x) l) (by
  refine Alz (l:=l) (p:=eqS x) (L:=fun i=>L1 l x i _) (φ:=fun r=>r=ixI (eqS x) l) ?_ ?_ rfl
  ·intro h;apply L1_step;rw [if_neg (by omega)];exact h
  ·intro k a ha hk h;apply L1_step;rw [if_pos (by omega)];refine ⟨a,Ab2 ha,?_⟩;rw [Aa4 (by unfold Big at hn;omega)]
   split
   ·rename_i hh;rw [if_pos (by simp [eqS,Aiy.1 hh])] at h;exact h
   ·rename_i hh;rw [if_neg (by simp only [eqS,decide_eq_true_eq];rintro rfl;exact hh rfl)] at h;exact h)
 rw [← h1];exact h2
end q49_
theorem Are {l : List ByteArray} {L : Int -> Prop} {P Q : Prop} (stop : P -> L (l.length : Int))
    (step : ∀ (k : Nat) a, l[k]? = some a -> k < l.length -> (if Ahv a = true then (if (l.take k).any (eqS a) = true then Q else L ((k + 1 : Nat) : Int)) else Q) -> L k) (h : Af7 l = true -> P) (h' : Af7 l = false -> Q) : L 0 := by
  have : ∀ (r : List ByteArray) (k : Nat), l.drop k = r -> k <= l.length -> (Al3 (l.take k) r = true -> P) -> (Al3 (l.take k) r = false -> Q) -> L k := by
    intro r
    induction r with
    | nil => intro k hd hk h h'; have : k = l.length := by have := Abv hd; omega
             subst this; exact stop (h rfl)
    | cons a r ih =>
      intro k hd hk h h';have hlt := Abw hd;refine step k a (Aax hd) hlt ?_;have hn := ih (k + 1) (Aao hd) hlt;have e : l.take (k + 1) = l.take k ++ [a] := by rw [List.take_add_one, Aax hd]; rfl
      rw [e] at hn;simp only [Al3] at h h'
      split
      · rename_i h1
        split
        · rename_i h2
          exact h' (by simp [h1, h2])
        · rename_i h2
          have h2 := Bool.eq_false_iff.2 h2;exact hn (fun hh => h (by simp [h1, h2, hh])) (fun hh => h' (by simp [h1, h2, hh]))
      · rename_i h1
        have h1 := Bool.eq_false_iff.2 h1;exact h' (by simp [h1])
  exact this l 0 rfl (Nat.zero_le _) h h'
theorem q32_.spec {l:List ByteArray} (hn:l.length<Big):q32_.C l (Af7 l):=by
 obtain ⟨r,h1,h2⟩:=q32_.enter l (fun r=>r=Af7 l) (by
  refine Are (l:=l) (L:=fun i=>q32_.L1 l i _) (P:=true=Af7 l) (Q:=false=Af7 l) ?_ ?_ Eq.symm Eq.symm
  ·intro h;apply q32_.L1_step;rw [if_neg (by omega)];exact h
  ·intro k a ha hk h;apply q32_.L1_step;rw [if_pos (by omega)];refine ⟨a,Ab2 ha,_,q48_.spec,?_⟩
   split
   ·rename_i h1;rw [if_pos h1] at h;refine ⟨by omega,by omega,_,q49_.spec (by rw [List.length_take];omega),?_⟩;rw [Int.toNat_natCast,Nat.sub_zero,Aa4 (by unfold Big at hn;omega)];have e:(0<=ixI (eqS a) (l.take k))↔(l.take k).any (eqS a)=true:=by rw [← Aso,decide_eq_true_iff]
    split
    ·rename_i h2;rw [if_pos (e.1 h2)] at h;exact h
    ·rename_i h2;rw [if_neg (fun hh=>h2 (e.2 hh))] at h;exact h
   ·rename_i h1;rw [if_neg h1] at h;exact h)
 rw [← h1];exact h2
def Aap (v:api_Value):Bool:=decide (v.Kind=0/\v.Num=0/\v.Str.toList=[]∨v.Kind=1/\v.Str.toList=[]∨v.Kind=2/\v.Num=0/\v.Str.toList.length<=200∨v.Kind=3/\1<=v.Num/\v.Str.toList=[])
theorem Ary {v : api_Value} {φ : Bool -> Prop} (h : φ (Aap v)) : (if v.Kind = 0 then (if v.Num = 0 then φ ((v.Str.toList == ((⟨#[]⟩ : ByteArray)).toList)) else φ false) else (if v.Kind = 1 then φ ((v.Str.toList == ((⟨#[]⟩ : ByteArray)).toList)) else (if v.Kind = 2 then (if v.Num = 0 then φ ((decide ((Ad0 v.Str) <= 200))) else φ false) else (if v.Kind = 3 then (if 1 <= v.Num then φ ((v.Str.toList == ((⟨#[]⟩ : ByteArray)).toList)) else φ false) else φ false)))) := by
  have e : ∀ b, b = Aap v -> φ b := by rintro _ rfl; exact h
  have e0 : (v.Str.toList == ((⟨#[]⟩ : ByteArray)).toList) = decide (v.Str.toList = []) := by
    rw [Bb0];by_cases h : v.Str.toList = []
    · simp [h]
    · simp [h]
  rw [e0, Ac7]
  repeat' split
  all_goals apply e
  all_goals unfold Aap
  all_goals first
    | (rw [decide_eq_decide]; omega)
    | (symm; rw [decide_eq_false_iff_not]; omega)
    | (rw [decide_eq_decide]; constructor
       · intro h; simp_all
       · intro h; simp_all)
theorem q70_.spec {v:api_Value}:q70_.C v (Aap v):=by
 obtain ⟨r,h1,h2⟩:=q70_.enter v (fun r=>r=Aap v) (Ary (φ:=fun r=>r=Aap v) rfl);rw [← h1];exact h2
theorem q31_.spec {v:api_Value}:q31_.C v (Aap v):=by
 obtain ⟨r,h1,h2⟩:=q31_.enter v (fun r=>r=Aap v) (Ary (φ:=fun r=>r=Aap v) rfl);rw [← h1];exact h2
def Adk (l:List api_Value):Bool:=l.all Aap
theorem q17_.spec {v:api_Value}:q17_.C v (!Aap v):=by
 obtain ⟨r,h1,h2⟩:=q17_.enter v (fun r=>r=!Aap v) ⟨_,q70_.spec,rfl⟩;rw [← h1];exact h2
namespace q1_
theorem spec {l:List api_Value} (hn:l.length<Big):C l (ixI (fun v=>!Aap v) l):=by
 obtain ⟨r,h1,h2⟩:=enter l (fun r=>r=ixI (fun v=>!Aap v) l) (by
  refine Alz (l:=l) (p:=fun v=>!Aap v) (L:=fun i=>L1 l i _) (φ:=fun r=>r=ixI (fun v=>!Aap v) l) ?_ ?_ rfl
  ·intro h;apply L1_step;rw [if_neg (by omega)];exact h
  ·intro k a ha hk h;apply L1_step;rw [if_pos (by omega)];refine ⟨a,Ab2 ha,_,q17_.spec,?_⟩;rw [Aa4 (by unfold Big at hn;omega)]
   exact h)
 rw [← h1];exact h2
end q1_
theorem q0_.spec {l:List api_Value} (hn:l.length<Big):q0_.C l (!Adk l):=by
 obtain ⟨r,h1,h2⟩:=q0_.enter l (fun r=>r=!Adk l) ⟨_,q1_.spec hn,by
  rw [Aso];unfold Adk;rw [List.any_eq_not_all_not];simp⟩
 rw [← h1];exact h2
theorem q23_.spec {l:List api_Value} (hn:l.length<Big):q23_.C l (Adk l):=by
 obtain ⟨r,h1,h2⟩:=q23_.enter l (fun r=>r=Adk l) ⟨_,q0_.spec hn,by
  show (!(!Adk l))=_
  rw [Bool.not_not]⟩
 rw [← h1];exact h2
theorem q24_.spec {l:List api_Value} (hn:l.length<Big):q24_.C l (Adk l):=by
 obtain ⟨r,h1,h2⟩:=q24_.enter l (fun r=>r=Adk l) (by
  refine Alm (l:=l) (p:=Aap) (L:=fun i=>q24_.L1 l i _) (φ:=fun r=>r=Adk l) ?_ ?_ rfl
  ·intro h;apply q24_.L1_step;rw [if_neg (by omega)];exact h
  ·intro k a ha hk h;apply q24_.L1_step;rw [if_pos (by omega)];refine ⟨a,Ab2 ha,_,q31_.spec,?_⟩;rw [Aa4 (by unfold Big at hn;omega)]
   exact h)
 rw [← h1];exact h2
def Aef (n:Nat):Int->List api_Row->Int
 | _,[]=>0
 | last,r::rs=>if r.ID<=last then 1 else if r.Values.length=n then (if Adk r.Values=true then Aef n r.ID rs else 1) else 6
def Abh (t:api_Table):Int:=if Ahv t.Name=true then (if 16<t.Attrs.length then 3 else if 1000<t.Rows.length then 3 else if Af7 t.Attrs=true then Aef t.Attrs.length 0 t.Rows else 1) else 1
theorem Aui {n : Nat} {l : List api_Row} {L : Int -> Int -> Prop} {φ : Int -> Prop} (stop : ∀ last, φ 0 -> L last (l.length : Int))
    (step : ∀ (k : Nat) r last, l[k]? = some r -> k < l.length -> (if r.ID <= last then φ 1 else if r.Values.length = n then (if Adk r.Values = true then L r.ID ((k + 1 : Nat) : Int) else φ 1) else φ 6) -> L last k) (h : φ (Aef n 0 l)) : L 0 0 := by
  have : ∀ (r : List api_Row) (k : Nat) (last : Int), l.drop k = r -> k <= l.length -> φ (Aef n last r) -> L last k := by
    intro r
    induction r with
    | nil => intro k last hd hk h; have : k = l.length := by have := Abv hd; omega
             subst this; exact stop _ h
    | cons a r ih =>
      intro k last hd hk h;have hlt := Abw hd;refine step k a last (Aax hd) hlt ?_;simp only [Aef] at h
      split
      · rename_i h1; rw [if_pos h1] at h; exact h
      · rename_i h1; rw [if_neg h1] at h
        split
        · rename_i h2; rw [if_pos h2] at h
          split
          · rename_i h3; rw [if_pos h3] at h; exact ih (k + 1) _ (Aao hd) hlt h
          · rename_i h3; rw [if_neg h3] at h; exact h
        · rename_i h2; rw [if_neg h2] at h; exact h
  exact this l 0 0 rfl (Nat.zero_le _) h
namespace q71_
theorem rows {t:api_Table} {φ:Int->Prop} (hr:t.Rows.length<=1000) (ha:t.Attrs.length<=16) (h:φ (Aef t.Attrs.length 0 t.Rows)):L2 t 0 0 φ:=by
 refine Aui (n:=t.Attrs.length) (l:=t.Rows) (L:=fun last i=>L2 t last i φ) (φ:=φ) ?_ ?_ h
 ·intro last h;apply L2_step;rw [if_neg (by omega)];exact h
 ·intro k r last hr hk h;apply L2_step;rw [if_pos (by omega)];refine ⟨r,Ab2 hr,?_⟩
  split
  ·rename_i h1;rw [if_pos h1] at h;exact h
  ·rename_i h1;rw [if_neg h1] at h
   split
   ·rename_i h2;have h2:r.Values.length=t.Attrs.length:=by omega
    rw [if_pos h2] at h;refine ⟨_,q23_.spec (by unfold Big;omega),?_⟩;rw [Aa4 (by omega)];exact h
   ·rename_i h2;rw [if_neg (by omega)] at h;exact h
theorem spec {t:api_Table}:C t (Abh t):=by
 obtain ⟨r,h1,h2⟩:=enter t (fun r=>r=Abh t) (by
  refine ⟨_,q64_.spec,?_⟩;unfold Abh
  split
  ·by_cases h1:16<t.Attrs.length
   ·rw [if_pos (by omega),if_pos h1]
   ·rw [if_neg (by omega),if_neg h1];by_cases h2:1000<t.Rows.length
    ·rw [if_pos (by omega),if_pos h2]
    ·rw [if_neg (by omega),if_neg h2];refine Are (l:=t.Attrs) (L:=fun i=>L1 t i _) (P:=Aef t.Attrs.length 0 t.Rows=if Af7 t.Attrs=true then Aef t.Attrs.length 0 t.Rows else 1) (Q:=(1:Int)=if Af7 t.Attrs=true then Aef t.Attrs.length 0 t.Rows else 1) ?_ ?_ ?_ ?_
     ·intro h;apply L1_step;rw [if_neg (by omega)];exact rows (φ:=fun r=>r=if Af7 t.Attrs=true then Aef t.Attrs.length 0 t.Rows else 1) (by omega) (by omega) h
     ·intro k a ha hk h;apply L1_step;rw [if_pos (by omega)];refine ⟨a,Ab2 ha,_,q64_.spec,?_⟩
      split
      ·rename_i h1;rw [if_pos h1] at h;refine ⟨by omega,by omega,_,q8_.spec (by rw [List.length_take];unfold Big;omega),?_⟩;rw [Int.toNat_natCast,Nat.sub_zero,Aa4 (by omega)];exact h
      ·rename_i h1;rw [if_neg h1] at h;exact h
     ·intro h;rw [if_pos h]
     ·intro h;rw [if_neg (by rw [h];decide)]
  ·rfl)
 rw [← h1];exact h2
end q71_
namespace q33_
theorem rows {t:api_Table} {φ:Int->Prop} (hr:t.Rows.length<=1000) (ha:t.Attrs.length<=16) (h:φ (Aef t.Attrs.length 0 t.Rows)):L1 t 0 0 φ:=by
 refine Aui (n:=t.Attrs.length) (l:=t.Rows) (L:=fun last i=>L1 t last i φ) (φ:=φ) ?_ ?_ h
 ·intro last h;apply L1_step;rw [if_neg (by omega)];exact h
 ·intro k r last hr hk h;apply L1_step;rw [if_pos (by omega)];refine ⟨r,Ab2 hr,?_⟩
  split
  ·rename_i h1;rw [if_pos h1] at h;exact h
  ·rename_i h1;rw [if_neg h1] at h
   split
   ·rename_i h2;have h2:r.Values.length=t.Attrs.length:=by omega
    rw [if_pos h2] at h;refine ⟨_,q24_.spec (by unfold Big;omega),?_⟩;rw [Aa4 (by omega)];exact h
   ·rename_i h2;rw [if_neg (by omega)] at h;exact h
theorem spec {t:api_Table}:C t (Abh t):=by
 obtain ⟨r,h1,h2⟩:=enter t (fun r=>r=Abh t) (by
  refine ⟨_,q48_.spec,?_⟩;unfold Abh
  split
  ·by_cases h1:16<t.Attrs.length
   ·rw [if_pos (by omega),if_pos h1]
   ·rw [if_neg (by omega),if_neg h1];by_cases h2:1000<t.Rows.length
    ·rw [if_pos (by omega),if_pos h2]
    ·rw [if_neg (by omega),if_neg h2];refine ⟨_,q32_.spec (by unfold Big;omega),?_⟩
     split
     ·exact rows (φ:=fun r=>r=Aef t.Attrs.length 0 t.Rows) (by omega) (by omega) rfl
     ·rfl
  ·rfl)
 rw [← h1];exact h2
end q33_
namespace q50_
theorem loop {φ:List Int->Prop}:∀ (n:Nat) (acc:List Int),n<2^32->acc.length+(Aan n).length<=1000->φ (acc++(Aan n).map fun (i:Nat)=>(i:Int))->L1 n acc φ:=by
 intro n
 induction n using Nat.strongRecOn with
 | _ n ih=>
  intro acc hn hl h;apply L1_step;by_cases h0:n=0
  ·subst h0;rw [Axi] at h;rw [if_pos (by omega)];simpa using h
  ·rw [if_neg (by omega)];rw [Axh h0 hn] at hl h;simp only [List.length_cons] at hl;refine ⟨by omega,by omega,?_⟩;have e1:IntKind.wrap .u32 ((n:Int)-1)=((n-1:Nat):Int):=by
    have:(n:Int)-1=((n-1:Nat):Int):=by omega
    rw [this];exact Aff (k:=.u32) (by simp only [top];omega)
   rw [e1,Apo (k:=.u32) (by simpa [top] using hn) (by simp only [top];omega)];refine ih _ (Bd4 h0) _ (Nat.lt_of_le_of_lt Nat.and_le_left hn) (by rw [List.length_append,List.length_singleton];omega) ?_;have e2:tz32 (n:Int)=((Ac3 n 32 0:Nat):Int):=by unfold tz32;rw [Int.toNat_natCast]
   rw [e2];simpa using h
theorem spec {n:Nat} (hn:n<2^32):C n ((Aan n).map fun (i:Nat)=>(i:Int)):=by
 obtain ⟨r,h1,h2⟩:=enter n (fun r=>r=(Aan n).map fun (i:Nat)=>(i:Int)) (loop n [] hn (by have:=Agl (n:=n);simp;omega) (by simp));rw [← h1];exact h2
end q50_
namespace q51_
theorem loop {k:Nat} {φ:Int->Prop} (h:φ (Aco k)):∀ (m i:Nat),i+m=min k 32->L1 k ((2^i-1:Nat):Int) i φ
 | 0,i,hi=>by
  apply L1_step;have e:((2^i-1:Nat):Int)=(Aco k:Int):=by unfold Aco;rw [← hi,Nat.add_zero]
  rw [e]
  split
  ·rw [if_neg (by omega)];exact h
  ·exact h
 | m+1,i,hi=>by
  apply L1_step;rw [if_pos (by omega),if_pos (by omega)];refine ⟨by omega,?_⟩;have hp:2^(i+1)<=2^32:=Nat.pow_le_pow_right (by decide) (by omega);have h2:0<2^i:=Nat.pos_of_ne_zero (by simp);rw [Nat.pow_succ] at hp;rw [Awy (k:=.u32) (by simp only [top];omega),Aku (k:=.u32) (by simp only [top];omega) (by simp only [top];omega),Aa4 (by omega)];have e:(2^i-1) ||| 2^i=2^(i+1)-1:=by
   apply Nat.eq_of_testBit_eq;intro j;rw [Nat.testBit_or,Nat.testBit_two_pow_sub_one,Nat.testBit_two_pow,Nat.testBit_two_pow_sub_one];by_cases h1:j<i
   ·have:j<i+1:=by omega
    simp [h1,this]
   ·by_cases h3:i=j
    ·subst h3;simp
    ·have:¬ j<i+1:=by omega
     simp [h1,h3,this]
  rw [e];exact loop h m (i+1) (by omega)
theorem spec {k:Nat}:C k (Aco k):=by
 obtain ⟨r,h1,h2⟩:=enter k (fun r=>r=(Aco k:Int)) (loop (φ:=fun r=>r=(Aco k:Int)) rfl (min k 32) 0 (by omega));rw [← h1];exact h2
end q51_
namespace q57_
theorem spec {n i:Nat} (hn:n<2^32):C n i (n.testBit i):=by
 obtain ⟨r,h1,h2⟩:=enter n i (fun r=>r=n.testBit i) (by
  rw [if_pos (by omega)]
  split
  ·refine ⟨by omega,?_⟩;rw [Bex (k:=.u32) (by simpa [top] using hn) (by decide)];cases n.testBit i<;>rfl
  ·rw [Nat.testBit_lt_two_pow (Nat.lt_of_lt_of_le hn (Nat.pow_le_pow_right (by decide) (by omega)))])
 rw [← h1];exact h2
end q57_
end Go.Own

namespace Go.Own
theorem Ai4 {a b:Int}:cmpI a b=0↔a=b:=by
 unfold cmpI;repeat' split
 all_goals omega
theorem q52_.spec {a b:Int}:q52_.C a b (cmpI a b):=by
 obtain ⟨r,h1,h2⟩:=q52_.enter a b (fun r=>r=cmpI a b) (by
  unfold cmpI;repeat' split
  all_goals first | rfl | omega)
 rw [← h1];exact h2
def cmpL:List UInt8->List UInt8->Int
 | [],[]=>0
 | [],_::_=>-1
 | _::_,[]=>1
 | a::r,b::s=>if a=b then cmpL r s else cmpI (u8i a) (u8i b)
theorem Atg:∀ {a b:List UInt8},cmpL a b=0↔a=b
 | [],[]=>by simp [cmpL]
 | [],_::_=>by simp [cmpL]
 | _::_,[]=>by simp [cmpL]
 | a::r,b::s=>by
  simp only [cmpL]
  split
  ·rename_i h;subst h;rw [Atg];simp
  ·rename_i h;rw [Ai4,Alc];simp [h]
def cmpS (a b:ByteArray):Int:=cmpL a.toList b.toList
theorem Bd7:∀ {a b:List UInt8},(a=[]∨b=[])->cmpI a.length b.length=cmpL a b
 | [],[],_=>rfl
 | [],_::r,_=>by
  simp only [cmpL,cmpI,List.length_cons,List.length_nil];rw [if_pos (by omega)]
 | _::r,[],_=>by
  simp only [cmpL,cmpI,List.length_cons,List.length_nil];rw [if_neg (by omega),if_pos (by omega)]
 | _::_,_::_,h=>by simp at h
namespace q19_
theorem loop {a b:ByteArray} {φ:Int->Prop} (hn:a.toList.length<Big):∀ (r s:List UInt8) (k:Nat),a.toList.drop k=r->b.toList.drop k=s->k<=a.toList.length->k<=b.toList.length->φ (cmpL r s)->L1 a b k φ:=by
 have fin:∀ (r s:List UInt8) (k:Nat),a.toList.drop k=r->b.toList.drop k=s->k<=a.toList.length->k<=b.toList.length->(r=[]∨s=[])->φ (cmpL r s)->L2 a b φ:=by
  intro r s k hr hs hk hk2 h0 h;apply L2_step;refine ⟨_,q52_.spec,?_⟩;rw [Ac7,Ac7];have e:cmpI a.toList.length b.toList.length=cmpI r.length s.length:=by
   rw [← hr,← hs,List.length_drop,List.length_drop];unfold cmpI
   repeat' split
   all_goals omega
  rw [e,Bd7 h0];exact h
 intro r
 induction r with
 | nil=>
  intro s k hr hs hk hk2 h;apply L1_step;have:=Abv hr;rw [Ac7,if_neg (by omega)];exact fin _ _ k hr hs hk hk2 (.inl rfl) h
 | cons x r ih=>
  intro s k hr hs hk hk2 h;apply L1_step;have hlt:=Abw hr;rw [Ac7,if_pos (by omega),Ac7]
  match s,hs,h with
  | [],hs,h=>
   have:=Abv hs;rw [if_neg (by omega)];exact fin _ _ k hr hs hk hk2 (.inr rfl) h
  | y::s,hs,h=>
   have hlt2:=Abw hs;rw [if_pos (by omega)];refine ⟨x,Adu (Aax hr),y,Adu (Aax hs),?_⟩;simp only [cmpL] at h
   split
   ·rename_i he;rw [if_pos (Alc.1 he)] at h;rw [Aa4 (by unfold Big at hn;omega)];exact ih s (k+1) (Aao hr) (Aao hs) hlt hlt2 h
   ·rename_i he;rw [if_neg (fun hh=>he (Alc.2 hh))] at h;refine ⟨x,Adu (Aax hr),y,Adu (Aax hs),_,q52_.spec,?_⟩;have b1:=Ax2 (b:=x);have b2:=Ax2 (b:=y);rw [Alg (by omega) (by omega),Alg (by omega) (by omega)];exact h
theorem spec {a b:ByteArray} (hn:a.toList.length<Big):C a b (cmpS a b):=by
 obtain ⟨r,h1,h2⟩:=enter a b (fun r=>r=cmpS a b) (loop hn a.toList b.toList 0 rfl rfl (by omega) (by omega) rfl);rw [← h1];exact h2
end q19_
def cmpV (v w:api_Value):Int:=if cmpI v.Kind w.Kind=0 then (if cmpI v.Num w.Num=0 then cmpS v.Str w.Str else cmpI v.Num w.Num) else cmpI v.Kind w.Kind
theorem Ath {v w:api_Value}:cmpV v w=0↔v=w:=by
 obtain ⟨k,n,s⟩:=v;obtain ⟨k',n',s'⟩:=w;unfold cmpV cmpS;simp only [api_Value.mk.injEq]
 split
 ·rename_i h1;rw [Ai4] at h1
  split
  ·rename_i h2;rw [Ai4] at h2;rw [Atg,Aiy];simp [h1,h2]
  ·rename_i h2;have h3:=h2;rw [Ai4] at h3;simp [h2,h3]
 ·rename_i h1;have h3:=h1;rw [Ai4] at h3;simp [h1,h3]
theorem q20_.spec {v w:api_Value} (hn:v.Str.toList.length<Big):q20_.C v w (cmpV v w):=by
 obtain ⟨r,h1,h2⟩:=q20_.enter v w (fun r=>r=cmpV v w) (by
  refine ⟨_,q52_.spec,?_⟩;unfold cmpV
  split
  ·refine ⟨_,q52_.spec,?_⟩
   split
   ·exact ⟨_,q19_.spec hn,rfl⟩
   ·rfl
  ·rfl)
 rw [← h1];exact h2
def Ayz (l:List api_Value):Prop:=l.length<Big/\∀ v∈l,v.Str.toList.length<Big
def Aea:List api_Value->List api_Value->Int
 | [],[]=>0
 | [],_::_=>-1
 | _::_,[]=>1
 | a::r,b::s=>if cmpV a b=0 then Aea r s else cmpV a b
theorem Alq:∀ {a b:List api_Value},Aea a b=0↔a=b
 | [],[]=>by simp [Aea]
 | [],_::_=>by simp [Aea]
 | _::_,[]=>by simp [Aea]
 | a::r,b::s=>by
  simp only [Aea]
  split
  ·rename_i h;rw [Alq];rw [Ath] at h;simp [h]
  ·rename_i h;have h2:=h;rw [Ath] at h2;simp [h,h2]
theorem Bb7:∀ {a b:List api_Value},(a=[]∨b=[])->cmpI a.length b.length=Aea a b
 | [],[],_=>rfl
 | [],_::r,_=>by
  simp only [Aea,cmpI,List.length_cons,List.length_nil];rw [if_pos (by omega)]
 | _::r,[],_=>by
  simp only [Aea,cmpI,List.length_cons,List.length_nil];rw [if_neg (by omega),if_pos (by omega)]
 | _::_,_::_,h=>by simp at h
namespace q34_
theorem loop {a b:List api_Value} {φ:Int->Prop} (hn:Ayz a):∀ (r s:List api_Value) (k:Nat),a.drop k=r->b.drop k=s->k<=a.length->k<=b.length->φ (Aea r s)->L1 a b k φ:=by
 have fin:∀ (r s:List api_Value) (k:Nat),a.drop k=r->b.drop k=s->k<=a.length->k<=b.length->(r=[]∨s=[])->φ (Aea r s)->L2 a b φ:=by
  intro r s k hr hs hk hk2 h0 h;apply L2_step;refine ⟨_,q52_.spec,?_⟩;have e:cmpI a.length b.length=cmpI r.length s.length:=by
   rw [← hr,← hs,List.length_drop,List.length_drop];unfold cmpI
   repeat' split
   all_goals omega
  rw [e,Bb7 h0];exact h
 intro r
 induction r with
 | nil=>
  intro s k hr hs hk hk2 h;apply L1_step;have:=Abv hr;rw [if_neg (by omega)];exact fin _ _ k hr hs hk hk2 (.inl rfl) h
 | cons x r ih=>
  intro s k hr hs hk hk2 h;apply L1_step;have hlt:=Abw hr;rw [if_pos (by omega)]
  match s,hs,h with
  | [],hs,h=>
   have:=Abv hs;rw [if_neg (by omega)];exact fin _ _ k hr hs hk hk2 (.inr rfl) h
  | y::s,hs,h=>
   have hlt2:=Abw hs;rw [if_pos (by omega)];refine ⟨x,Acx hr,y,Acx hs,_,q20_.spec (hn.2 x (List.mem_of_getElem? (Aax hr))),?_⟩;simp only [Aea] at h
   split
   ·rename_i he;rw [if_pos he] at h;rw [Aa4 (by have:=hn.1;unfold Big at this;omega)];exact ih s (k+1) (Aao hr) (Aao hs) hlt hlt2 h
   ·rename_i he;rw [if_neg he] at h;exact h
theorem spec {a b:List api_Value} (hn:Ayz a):C a b (Aea a b):=by
 obtain ⟨r,h1,h2⟩:=enter a b (fun r=>r=Aea a b) (loop hn a b 0 rfl rfl (by omega) (by omega) rfl);rw [← h1];exact h2
end q34_
theorem q53_.spec {a b:List api_Value} (hn:Ayz a):q53_.C a b (decide (a=b)):=by
 obtain ⟨r,h1,h2⟩:=q53_.enter a b (fun r=>r=decide (a=b)) ⟨_,q34_.spec hn,by
  by_cases h:a=b
  ·simp [h,Alq.2 rfl]
  ·have:Aea a b≠0:=fun hh=>h (Alq.1 hh)
   simp [h,this]⟩
 rw [← h1];exact h2
def be:Nat->Nat->List Int
 | 0,_=>[]
 | j+1,u=>((u / 2^(8*j) % 256:Nat):Int)::be j u
theorem Aqf:∀ {j u},(be j u).length=j
 | 0,_=>rfl
 | j+1,u=>by simp [be,Aqf]
theorem Avl:∀ {j u},∀ x∈be j u,0<=x/\x<256
 | 0,_,_,h=>by simp [be] at h
 | j+1,u,x,h=>by
  simp only [be,List.mem_cons] at h;rcases h with rfl | h
  ·omega
  ·exact Avl x h
theorem Bay:∀ {j u v},be j u=be j v->u % 2^(8*j)=v % 2^(8*j)
 | 0,u,v,_=>by simp [Nat.mod_one]
 | j+1,u,v,h=>by
  simp only [be,List.cons.injEq] at h;have ih:=Bay h.2;have e:2^(8*(j+1))=2^(8*j)*256:=by rw [Nat.mul_add,Nat.pow_add]
  rw [e,Nat.mod_mul,Nat.mod_mul,ih];have:u / 2^(8*j) % 256=v / 2^(8*j) % 256:=by omega
  rw [this]
def Agr (n:Int):Nat:=(n % 18446744073709551616).toNat ^^^ 9223372036854775808
theorem An3 {n:Int}:Agr n<2^64:=Nat.xor_lt_two_pow (by omega) (by decide)
theorem Azg {m n:Int} (hm : -9223372036854775808<=m/\m<9223372036854775808) (hn : -9223372036854775808<=n/\n<9223372036854775808) (h:Agr m=Agr n):m=n:=by
 unfold Agr at h;have h2:(m % 18446744073709551616).toNat=(n % 18446744073709551616).toNat:=by
  have:=congrArg (· ^^^ 9223372036854775808) h;simpa [Nat.xor_assoc] using this
 omega
namespace q65_
theorem loop {φ:List Int->Prop} {u:Nat} (hu:u<2^64):∀ (j:Nat) (acc:List Int),j<=8->acc.length+j<=1000->φ (acc++be j u)->L1 acc u (8*(j:Int)-8) φ
 | 0,acc,hj,hl,h=>by
  apply L1_step;rw [if_neg (by omega)];simpa [be] using h
 | j+1,acc,hj,hl,h=>by
  apply L1_step;rw [if_pos (by omega)];refine ⟨by omega,by omega,?_⟩;have e1:8*((j+1:Nat):Int)-8=((8*j:Nat):Int):=by omega
  rw [e1,Ajk (k:=.u64) (by simpa [top] using hu),IntKind.wrap_u8,Alg (by omega) (by omega)];have e2:((8*j:Nat):Int)-8=8*(j:Int)-8:=by omega
  rw [e2];refine loop hu j _ (by omega) (by simp;omega) ?_;have e3:((u / 2^(8*j):Nat):Int) % 256=((u / 2^(8*j) % 256:Nat):Int):=by omega
  rw [e3];simpa [be] using h
theorem spec {n:Int} {acc:List Int} (hl:acc.length<=900):C n acc (acc++be 8 (Agr n)):=by
 obtain ⟨r,h1,h2⟩:=enter n acc (fun r=>r=acc++be 8 (Agr n)) (by
  have e:bXor .u64 (IntKind.wrap .u64 n) 9223372036854775808=(Agr n:Int):=by
   have e1:IntKind.wrap .u64 n=(((n % 18446744073709551616).toNat:Nat):Int):=by
    simp only [IntKind.wrap,IntKind.bits,IntKind.signed];simp;omega
   rw [e1];exact Bcz (k:=.u64) (b:=9223372036854775808) (by simp only [top];omega) (by simp only [top];omega)
  rw [e]
  exact loop An3 8 acc (by omega) (by omega) rfl)
 rw [← h1];exact h2
end q65_
def esc:List UInt8->List Int
 | []=>[]
 | b::r=>if u8i b=0 then 0::255::esc r else u8i b::esc r
theorem Bdb {l:List UInt8} {b:UInt8}:esc (l++[b])=esc l++esc [b]:=by
 induction l with
 | nil=>rfl
 | cons a l ih=>simp only [List.cons_append,esc,ih];split<;>rfl
theorem Ak1:∀ {l:List UInt8},∀ x∈esc l,0<=x/\x<256
 | [],x,h=>by simp [esc] at h
 | b::r,x,h=>by
  simp only [esc] at h
  split at h
  ·simp only [List.mem_cons] at h;rcases h with rfl | rfl | h
   ·omega
   ·omega
   ·exact Ak1 x h
  ·simp only [List.mem_cons] at h;rcases h with rfl | h
   ·exact Ax2
   ·exact Ak1 x h
theorem Aod:∀ {l:List UInt8},(esc l).length<=2*l.length
 | []=>by simp [esc]
 | b::r=>by
  have:=Aod (l:=r);simp only [esc]
  split<;>simp only [List.length_cons]<;>omega
theorem Asf:∀ {a b:List UInt8} {r s:List Int},esc a++(0::1::r)=esc b++(0::1::s)->a=b/\r=s
 | [],[],r,s,h=>by simpa [esc] using h
 | [],y::b,r,s,h=>by
  simp only [esc] at h
  split at h
  ·simp at h
  ·rename_i hy;simp only [List.nil_append,List.cons_append,List.cons.injEq] at h;exact absurd h.1.symm hy
 | x::a,[],r,s,h=>by
  simp only [esc] at h
  split at h
  ·simp at h
  ·rename_i hx;simp only [List.nil_append,List.cons_append,List.cons.injEq] at h;exact absurd h.1 hx
 | x::a,y::b,r,s,h=>by
  simp only [esc] at h
  split at h
  ·rename_i hx
   split at h
   ·rename_i hy;simp only [List.cons_append,List.cons.injEq,true_and] at h;obtain ⟨h1,h2⟩:=Asf h;exact ⟨by rw [h1,Alc.1 (hx.trans hy.symm)],h2⟩
   ·rename_i hy;simp only [List.cons_append,List.cons.injEq] at h;exact absurd h.1.symm hy
  ·rename_i hx
   split at h
   ·rename_i hy;simp only [List.cons_append,List.cons.injEq] at h;exact absurd h.1 hx
   ·rename_i hy;simp only [List.cons_append,List.cons.injEq] at h;obtain ⟨h1,h2⟩:=Asf h.2;exact ⟨by rw [h1,Alc.1 h.1],h2⟩
def keyJ (v:api_Value):List Int:=v.Kind::(if v.Kind=1∨v.Kind=3 then be 8 (Agr v.Num) else if v.Kind=2 then esc v.Str.toList++[0,1] else [])
def Ajs (v:api_Value):Prop:=-9223372036854775808<=v.Num/\v.Num<9223372036854775808
theorem Ae1 {v:api_Value} (h:Aap v=true):v.Kind=0/\v.Num=0/\v.Str.toList=[]∨v.Kind=1/\v.Str.toList=[]∨v.Kind=2/\v.Num=0/\v.Str.toList.length<=200∨v.Kind=3/\1<=v.Num/\v.Str.toList=[]:=by
 simpa [Aap] using h
theorem Ar3 {v:api_Value} (h:Aap v=true):∀ x∈keyJ v,0<=x/\x<256:=by
 intro x hx;have hk:0<=v.Kind/\v.Kind<=3:=by rcases Ae1 h with h | h | h | h<;>omega
 simp only [keyJ,List.mem_cons] at hx;rcases hx with rfl | hx
 ·omega
 ·split at hx
  ·exact Avl x hx
  ·split at hx
   ·rcases List.mem_append.1 hx with hx | hx
    ·exact Ak1 x hx
    ·simp at hx;rcases hx with rfl | rfl<;>omega
   ·simp at hx
theorem Am2 {v:api_Value} (h:Aap v=true):(keyJ v).length<=403:=by
 simp only [keyJ,List.length_cons]
 split
 ·rw [Aqf];omega
 ·split
  ·have:=Aod (l:=v.Str.toList);have:v.Str.toList.length<=200:=by
    rcases Ae1 h with h | h | h | h
    ·rw [h.2.2];simp
    ·rw [h.2];simp
    ·exact h.2.2
    ·rw [h.2.2];simp
   simp;omega
  ·simp
theorem Bdn {v w:api_Value} {r s:List Int} (hv:Aap v=true) (hw:Aap w=true) (nv:Ajs v) (nw:Ajs w) (h:keyJ v++r=keyJ w++s):v=w/\r=s:=by
 obtain ⟨k,n,t⟩:=v;obtain ⟨k',n',t'⟩:=w;simp only [keyJ,List.cons_append,List.cons.injEq] at h;obtain ⟨rfl,h⟩:=h;have hv:=Ae1 hv;have hw:=Ae1 hw;simp only at hv hw;simp only [api_Value.mk.injEq,true_and];by_cases h1:k=1∨k=3
 ·rw [if_pos h1,if_pos h1] at h;have h3:=List.append_inj h (by rw [Aqf,Aqf]);have h2:=Bay h3.1;rw [Nat.mod_eq_of_lt An3,Nat.mod_eq_of_lt An3] at h2;have e:=Azg nv nw h2;simp only at e;refine ⟨⟨e,?_⟩,h3.2⟩;rw [← Aiy];have a1:t.toList=[]:=by rcases hv with h | h | h | h<;>first | exact h.2.2 | exact h.2 | omega
  have a2:t'.toList=[]:=by rcases hw with h | h | h | h<;>first | exact h.2.2 | exact h.2 | omega
  rw [a1,a2]
 ·rw [if_neg h1,if_neg h1] at h;by_cases h2:k=2
  ·rw [if_pos h2,if_pos h2,List.append_assoc,List.append_assoc] at h;obtain ⟨e1,e2⟩:=Asf h;rw [Aiy] at e1;exact ⟨⟨by omega,e1⟩,e2⟩
  ·rw [if_neg h2,if_neg h2] at h;have a1:t.toList=[]:=by rcases hv with h | h | h | h<;>first | exact h.2.2 | exact h.2 | omega
   have a2:t'.toList=[]:=by rcases hw with h | h | h | h<;>first | exact h.2.2 | exact h.2 | omega
   exact ⟨⟨by omega,by rw [← Aiy,a1,a2]⟩,by simpa using h⟩
def keyW (v:api_Value):ByteArray:=Ajy (keyJ v)
namespace q74_
theorem loop {v:api_Value} {φ:ByteArray×Int->Prop} (hk:v.Kind=2) (hs:v.Str.toList.length<=200) (h:φ (keyW v,0)):∀ (r:List UInt8) (k:Nat),v.Str.toList.drop k=r->k<=v.Str.toList.length->L1 v (2::esc (v.Str.toList.take k)) k φ:=by
 intro r
 induction r with
 | nil=>
  intro k hd hk2;apply L1_step;have:=Abv hd;rw [Ac7,if_neg (by omega),List.take_of_length_le this];have hl:=Aod (l:=v.Str.toList);have e:keyJ v=(2::esc v.Str.toList)++[0,1]:=by simp [keyJ,hk]
  refine ⟨by simp only [List.length_cons];omega,fun x hx=>?_,?_⟩
  ·rcases List.mem_append.1 hx with hx | hx
   ·rcases List.mem_cons.1 hx with rfl | hx
    ·omega
    ·exact Ak1 x hx
   ·simp at hx;rcases hx with rfl | rfl<;>omega
  ·rw [← e];exact h
 | cons b r ih=>
  intro k hd hk2;have hlt:=Abw hd;apply L1_step;rw [Ac7,if_pos (by omega)];have hl:=Aod (l:=v.Str.toList.take k);rw [List.length_take] at hl;refine ⟨b,Adu (Aax hd),by simp only [List.length_cons];omega,b,Adu (Aax hd),?_⟩;have ih:=ih (k+1) (Aao hd) hlt;have e:v.Str.toList.take (k+1)=v.Str.toList.take k++[b]:=by rw [List.take_add_one,Aax hd];rfl
  rw [e,Bdb] at ih;have next:∀ l,l=2::(esc (v.Str.toList.take k)++esc [b])->L4 v l k φ:=by
   rintro _ rfl;apply L4_step;rw [Aa4 (by omega)];exact ih
  split
  ·rename_i h0;refine ⟨by simp only [List.length_append,List.length_cons,List.length_nil];omega,next _ ?_⟩;simp [esc,h0]
  ·rename_i h0;exact next _ (by simp [esc,h0])
theorem spec {v:api_Value} (hv:Aap v=true):C v (keyW v,0):=by
 obtain ⟨r,h1,h2⟩:=enter v (fun r=>r=(keyW v,0)) (by
  refine ⟨_,q70_.spec,?_⟩;rw [if_pos hv];have hc:=Ae1 hv;have hk:0<=v.Kind/\v.Kind<=3:=by rcases hc with h | h | h | h<;>omega
  have ek:IntKind.wrap .u8 v.Kind=v.Kind:=by rw [IntKind.wrap_u8];omega
  have two:∀ b,(v.Kind=1∨v.Kind=3)->L2 v b fun r=>r=(keyW v,0):=by
   intro b hb;apply L2_step;rw [ek];have e:keyJ v=[v.Kind]++be 8 (Agr v.Num):=by simp [keyJ,hb]
   refine ⟨_,q65_.spec (by simp),?_,?_⟩
   ·rw [← e];exact Ar3 hv
   ·rw [← e];rfl
  have three:¬ (v.Kind=1∨v.Kind=3)->L3 v fun r=>r=(keyW v,0):=by
   intro hb;apply L3_step;rw [ek]
   split
   ·rename_i h2;have hs:v.Str.toList.length<=200:=by
     rcases hc with h | h | h | h
     ·omega
     ·omega
     ·exact h.2.2
     ·omega
    have:=loop (φ:=fun r=>r=(keyW v,0)) h2 hs rfl v.Str.toList 0 rfl (by omega);rw [h2];simpa [esc] using this
   ·rename_i h2;refine ⟨fun x hx=>by simp at hx;omega,?_⟩;simp [keyW,keyJ,hb,h2]
  split
  ·rename_i h1;exact two _ (.inl h1)
  ·rename_i h1
   split
   ·rename_i h3;exact two _ (.inr h3)
   ·rename_i h3;exact three (by omega))
 rw [← h1];exact h2
end q74_
def b8 (x:Int):UInt8:=UInt8.ofNat x.toNat
theorem Bhh {x y:Int} (hx:0<=x/\x<256) (hy:0<=y/\y<256) (h:b8 x=b8 y):x=y:=by
 unfold b8 at h;have:=congrArg UInt8.toNat h;simp at this;omega
theorem Ard:∀ {l m:List Int},(∀ x∈l,0<=x/\x<256)->(∀ x∈m,0<=x/\x<256)->l.map b8=m.map b8->l=m
 | [],[],_,_,_=>rfl
 | [],_::_,_,_,h=>by simp at h
 | _::_,[],_,_,h=>by simp at h
 | x::l,y::m,h1,h2,h=>by
  simp only [List.map_cons,List.cons.injEq] at h;rw [Bhh (h1 x (by simp)) (h2 y (by simp)) h.1,Ard (fun z hz=>h1 z (by simp [hz])) (fun z hz=>h2 z (by simp [hz])) h.2]
theorem Au0 {v:api_Value}:(keyW v).data.toList=(keyJ v).map b8:=by
 unfold keyW Ajy b8;simp
theorem Au1 {v:api_Value}:(keyW v).size=(keyJ v).length:=by
 have:(keyW v).size=(keyW v).data.toList.length:=rfl;rw [this,Au0,List.length_map]
def Acq (l:List api_Value):List Int:=l.flatMap keyJ
theorem Ap5 {l:List api_Value} (h:∀ v∈l,Aap v=true):∀ x∈Acq l,0<=x/\x<256:=by
 intro x hx;obtain ⟨v,hv,hx⟩:=List.mem_flatMap.1 hx;exact Ar3 (h v hv) x hx
theorem Au2:∀ {l m:List api_Value},l.length=m.length->(∀ v∈l,Aap v=true/\Ajs v)->(∀ v∈m,Aap v=true/\Ajs v)->Acq l=Acq m->l=m
 | [],[],_,_,_,_=>rfl
 | [],_::_,h,_,_,_=>by simp at h
 | _::_,[],h,_,_,_=>by simp at h
 | v::l,w::m,hl,h1,h2,h=>by
  simp only [Acq,List.flatMap_cons] at h;have a:=h1 v (by simp);have b:=h2 w (by simp);obtain ⟨e1,e2⟩:=Bdn a.1 b.1 a.2 b.2 h;rw [e1,Au2 (by simpa using hl) (fun z hz=>h1 z (by simp [hz])) (fun z hz=>h2 z (by simp [hz])) e2]
def Aav (l:List api_Value):ByteArray:=bstr ((Acq l).map b8)
theorem An8 {l m:List api_Value} (hl:l.length=m.length) (h1:∀ v∈l,Aap v=true/\Ajs v) (h2:∀ v∈m,Aap v=true/\Ajs v):Aav l=Aav m↔l=m:=by
 constructor
 ·intro h;have h3:(Acq l).map b8=(Acq m).map b8:=by
   have:=congrArg ByteArray.toList h;unfold Aav at this
   rwa [Asa,Asa] at this
  exact Au2 hl h1 h2 (Ard (Ap5 fun v hv=>(h1 v hv).1) (Ap5 fun v hv=>(h2 v hv).1) h3)
 ·rintro rfl;rfl
def pick (l:List api_Value) (n:Nat):List api_Value:=(Aan n).filterMap fun i=>l[i]?
theorem Avz {α β:Type} {f g:α->Option β}:∀ {l:List α},(∀ a∈l,f a=g a)->l.filterMap f=l.filterMap g
 | [],_=>rfl
 | a::l,h=>by
  have ih:=Avz (l:=l) fun b hb=>h b (by simp [hb]);simp only [List.filterMap_cons,h a (by simp),ih]
theorem Baz {n k:Nat} (hn:n<2^32):(Aan n).filter (fun i=>decide (i<k+1))=(Aan n).filter (fun i=>decide (i<k))++if n.testBit k=true then [k] else []:=by
 refine Arv (Afy.filter _) ?_ fun x=>?_
 ·rw [List.pairwise_append];refine ⟨Afy.filter _,by split<;>simp,fun a ha b hb=>?_⟩;have ha:=(List.mem_filter.1 ha).2
  split at hb
  ·simp at hb ha;omega
  ·simp at hb
 ·simp only [List.mem_filter,List.mem_append,decide_eq_true_eq]
  split
  ·rename_i h;rw [List.mem_singleton];constructor
   ·rintro ⟨h1,h2⟩;by_cases hx:x<k
    ·exact .inl ⟨h1,hx⟩
    ·exact .inr (by omega)
   ·rintro (⟨h1,h2⟩ | rfl)
    ·exact ⟨h1,by omega⟩
    ·exact ⟨(Acj hn).2 h,by omega⟩
  ·rename_i h;constructor
   ·rintro ⟨h1,h2⟩;have:x≠k:=fun e=>h (e ▸ (Acj hn).1 h1);exact .inl ⟨h1,by omega⟩
   ·rintro (⟨h1,h2⟩ | h1)
    ·exact ⟨h1,by omega⟩
    ·simp at h1
namespace q26_
theorem spec {r:api_Row} {n:Nat} (hn:n<2^32) (hr:r.Values.length<=1000):C r n (pick r.Values n):=by
 obtain ⟨q,h1,h2⟩:=enter r n (fun q=>q=pick r.Values n) (by
  have loop:∀ k,k<=r.Values.length->L1 r n (((Aan n).filter fun i=>decide (i<k)).filterMap fun i=>r.Values[i]?) k fun q=>q=pick r.Values n:=by
   refine down ?_ ?_
   ·apply L1_step;rw [if_neg (by omega)];unfold pick;rw [List.filterMap_filter];refine Avz fun i hi=>?_;by_cases h:i<r.Values.length
    ·simp [h]
    ·simp [h]
   ·intro k hk h;apply L1_step;rw [if_pos (by omega)];have hget:=List.getElem?_eq_getElem hk;have hlen:(((Aan n).filter fun i=>decide (i<k)).filterMap fun i=>r.Values[i]?).length<=32:=
     Nat.le_trans (List.length_filterMap_le _ _) (Nat.le_trans (List.length_filter_le _ _) Agl)
    rw [Baz hn,List.filterMap_append] at h;refine ⟨_,q57_.spec hn,?_⟩;have next:∀ l,l=(((Aan n).filter fun i=>decide (i<k)).filterMap fun i=>r.Values[i]?)++((if n.testBit k=true then [k] else []).filterMap fun i=>r.Values[i]?)->L2 r n l k fun q=>q=pick r.Values n:=by
     rintro _ rfl;apply L2_step;rw [Aa4 (by omega)];exact h
    split
    ·rename_i hb;exact ⟨r.Values[k],Ab2 hget,by omega,next _ (by simp [hb,hget])⟩
    ·rename_i hb;exact next _ (by simp [hb])
  have:=loop 0 (Nat.zero_le _);have e:(Aan n).filter (fun i=>decide (i<0))=[]:=by rw [List.filter_eq_nil_iff];simp
  rw [e] at this
  exact this)
 rw [← h1];exact h2
end q26_
def Aei (a b:List api_Value) (n:Nat):Bool:=decide (pick a n=pick b n)
theorem Bem {a b:List api_Value} (hl:a.length=b.length):∀ {l:List Nat},(l.filterMap fun i=>a[i]?)=(l.filterMap fun i=>b[i]?)↔∀ i∈l,a[i]? = b[i]?
 | []=>by simp
 | k::l=>by
  have ih:=Bem (a:=a) (b:=b) hl (l:=l);by_cases h:k<a.length
  ·have e1:=List.getElem?_eq_getElem h;have e2:=List.getElem?_eq_getElem (l:=b) (i:=k) (by omega);simp only [List.filterMap_cons,e1,e2,List.cons.injEq,ih,List.forall_mem_cons,zJ]
  ·have e1:a[k]? = none:=List.getElem?_eq_none (by omega);have e2:b[k]? = none:=List.getElem?_eq_none (by omega);simp only [List.filterMap_cons,e1,e2,ih,List.forall_mem_cons,true_and]
theorem Bat {a b:List api_Value} {n:Nat} (hn:n<2^32) (hl:a.length=b.length):Aei a b n=true↔∀ i,n.testBit i=true->a[i]? = b[i]?:=by
 unfold Aei pick;rw [decide_eq_true_iff,Bem hl];constructor
 ·exact fun h i hi=>h i ((Acj hn).2 hi)
 ·exact fun h i hi=>h i ((Acj hn).1 hi)
theorem Af8 {l:List api_Value} {n:Nat}:∀ v∈pick l n,v∈l:=by
 intro v hv;obtain ⟨i,_,hi⟩:=List.mem_filterMap.1 hv;exact List.mem_of_getElem? hi
theorem Awt {l:List api_Value} {n:Nat}:(pick l n).length<=32:=Nat.le_trans (List.length_filterMap_le _ _) Agl
theorem q35_.spec {a b:api_Row} {n:Nat} (hn:n<2^32) (ha:a.Values.length<=1000) (hb:b.Values.length<=1000) (hs:∀ v∈a.Values,v.Str.toList.length<Big):q35_.C a b n (Aei a.Values b.Values n):=by
 obtain ⟨q,h1,h2⟩:=q35_.enter a b n (fun q=>q=Aei a.Values b.Values n)
  ⟨_,q26_.spec hn ha,_,q26_.spec hn hb,_,q53_.spec ⟨by have:=Awt (l:=a.Values) (n:=n);unfold Big;omega,fun v hv=>hs v (Af8 v hv)⟩,rfl⟩
 rw [← h1];exact h2
structure TV (t:api_Table):Prop where
 name:Ahv t.Name=true
 na:t.Attrs.length<=16
 nr:t.Rows.length<=1000
 names:Af7 t.Attrs=true
 rows:Aef t.Attrs.length 0 t.Rows=0
theorem Aeg {t:api_Table}:Abh t=0↔TV t:=by
 unfold Abh;constructor
 ·intro h
  split at h
  ·split at h
   ·cases h
   ·split at h
    ·cases h
    ·split at h
     ·rename_i h1 h2 h3 h4;exact ⟨h1,by omega,by omega,h4,h⟩
     ·cases h
  ·cases h
 ·intro h;rw [if_pos h.name,if_neg (by have:=h.na;omega),if_neg (by have:=h.nr;omega),if_pos h.names];exact h.rows
theorem Anq {n:Nat}:∀ {l:List api_Row} {last:Int},Aef n last l=0->∀ r∈l,r.Values.length=n/\(∀ v∈r.Values,Aap v=true)/\last<r.ID
 | [],_,_,r,hr=>by cases hr
 | a::l,last,h,r,hr=>by
  simp only [Aef] at h
  split at h
  ·cases h
  ·split at h
   ·split at h
    ·rename_i h1 h2 h3;unfold Adk at h3;rw [List.all_eq_true] at h3;rcases List.mem_cons.1 hr with rfl | hr
     ·exact ⟨h2,h3,by omega⟩
     ·obtain ⟨e1,e2,e3⟩:=Anq h r hr;exact ⟨e1,e2,by omega⟩
    ·cases h
   ·cases h
theorem TV.len {t:api_Table} (h:TV t) {r:api_Row} (hr:r∈t.Rows):r.Values.length=t.Attrs.length:=(Anq h.rows r hr).1
theorem TV.val {t:api_Table} (h:TV t) {r:api_Row} (hr:r∈t.Rows):∀ v∈r.Values,Aap v=true:=(Anq h.rows r hr).2.1
theorem Aum {v:api_Value} (h:Aap v=true):v.Str.toList.length<=200:=by
 rcases Ae1 h with h | h | h | h
 ·rw [h.2.2];simp
 ·rw [h.2];simp
 ·exact h.2.2
 ·rw [h.2.2];simp
def TNum (t:api_Table):Prop:=∀ r∈t.Rows,∀ v∈r.Values,Ajs v
def Ad5 (t:api_Table) (n:Nat):List (List api_Value):=t.Rows.map fun r=>pick r.Values n
theorem Af9 {t:api_Table} {n:Nat}:(Ad5 t n).length=t.Rows.length:=by simp [Ad5]
theorem Be6 {t:api_Table} (ht:TV t) {n i j:Nat} (hn:n<2^32) (hi:i<t.Rows.length) (hj:j<t.Rows.length):(Ad5 t n)[i]? = (Ad5 t n)[j]?↔∀ k,n.testBit k=true->(t.Rows[i]'hi).Values[k]? = (t.Rows[j]'hj).Values[k]?:=by
 unfold Ad5;rw [List.getElem?_map,List.getElem?_map,List.getElem?_eq_getElem hi,List.getElem?_eq_getElem hj];simp only [Option.map_some,zJ];rw [← Bat hn (by rw [ht.len (List.getElem_mem hi),ht.len (List.getElem_mem hj)])];unfold Aei;rw [decide_eq_true_iff]
def OkP (t:api_Table) (l r i k:Nat):Prop:=(Ad5 t l)[i]? = (Ad5 t l)[k]?->(Ad5 t r)[i]? = (Ad5 t r)[k]?
def SatP (t:api_Table) (l r:Nat):Prop:=∀ i k,i<t.Rows.length->k<i->OkP t l r i k
theorem SatP.all {t:api_Table} {l r:Nat} (h:SatP t l r) {i k:Nat} (hi:i<t.Rows.length) (hk:k<t.Rows.length):OkP t l r i k:=by
 rcases Nat.lt_trichotomy i k with h1 | h1 | h1
 ·exact fun e=>(h k i hk h1 e.symm).symm
 ·subst h1;exact fun _=>rfl
 ·exact h i k hi h1
theorem agr {t:api_Table} {n i k:Nat} (hi:i<t.Rows.length) (hk:k<t.Rows.length):Aei (t.Rows[i]).Values (t.Rows[k]).Values n=true↔(Ad5 t n)[i]? = (Ad5 t n)[k]?:=by
 unfold Ad5 Aei;rw [List.getElem?_map,List.getElem?_map,List.getElem?_eq_getElem hi,List.getElem?_eq_getElem hk];simp
def EqA (t:api_Table) (i k a:Nat):Prop:=(t.Rows[i]?.map fun r=>r.Values[a]?)=(t.Rows[k]?.map fun r=>r.Values[a]?)
instance (t:api_Table) (i k a:Nat):Decidable (EqA t i k a):=by unfold EqA;infer_instance
theorem Aws {t:api_Table} (ht:TV t) {n i j:Nat} (hn:n<2^32) (hi:i<t.Rows.length) (hj:j<t.Rows.length):(Ad5 t n)[i]? = (Ad5 t n)[j]?↔∀ k,n.testBit k=true->EqA t i j k:=by
 rw [Be6 ht hn hi hj];unfold EqA;rw [List.getElem?_eq_getElem hi,List.getElem?_eq_getElem hj];simp only [Option.map_some,zJ]
theorem q58_.spec {a b:Nat} (ha:a<2^32) (hb:b<2^32):q58_.C a b (decide (a &&& b=a)):=by
 obtain ⟨r,h1,h2⟩:=q58_.enter a b (fun r=>r=decide (a &&& b=a)) (by
  rw [Apo (k:=.u32) (by simpa [top] using ha) (by simpa [top] using hb)];by_cases h:a &&& b=a
  ·simp [h]
  ·have:¬ ((a &&& b:Nat):Int)=(a:Int):=by omega
   simp [h,this])
 rw [← h1];exact h2
def FdOK (l:List api_FD):Prop:=∀ d∈l,U32 d.Lhs/\U32 d.Rhs
def inU (n:Nat) (l r:Int):Bool:=decide (sN l<2^n)&&decide (sN r<2^n)
theorem Ben {n:Nat} {l r:Int} (hl:U32 l) (hr:U32 r):(shrw .u32 (bOr .u32 l r) (n:Int)=0)↔inU n l r=true:=by
 rw [hl.eq,hr.eq,Aku hl.top hr.top,Ajk (Nat.or_lt_two_pow hl.top hr.top)];unfold inU;rw [Bool.and_eq_true,decide_eq_true_iff,decide_eq_true_iff];have e1:sN (sN l:Int)=sN l:=by unfold sN;omega
 have e2:sN (sN r:Int)=sN r:=by unfold sN;omega
 rw [e1,e2,← Av6,← Bd8];omega
theorem Bef {a n:Nat} (ha:a<2^32) (hn:n<=32):(a &&& Aco n=a)↔a<2^n:=by
 rw [Bh7,Bjh];constructor
 ·intro h i hi;have:=h i hi;rw [Ak3,decide_eq_true_iff] at this;omega
 ·intro h i hi;rw [Ak3,decide_eq_true_iff];have:=h i hi;omega
theorem Arw {n:Nat} {x:Int} (hn:n<=32) (hx:U32 x):q58_.C x (Aco n) (decide (sN x<2^n)):=by
 have:=q58_.spec (a:=sN x) (b:=Aco n) hx.lt Aw4;rw [← hx.eq] at this;have e:decide (sN x &&& Aco n=sN x)=decide (sN x<2^n):=by rw [decide_eq_decide];exact Bef hx.lt hn
 rw [e] at this;exact this
def fdsE (n:Int) (l:List api_FD):Int:=if n<0∨16<n then 7 else if 64<l.length then 3 else if (l.all fun d=>inU n.toNat d.Lhs d.Rhs)=true then 0 else 1
theorem All {α:Type} {l:List α} {p:α->Bool} {L:Int->Prop} {φ:Int->Prop} (stop:φ 0->L (l.length:Int))
  (step:∀ (k:Nat) a,l[k]? = some a->k<l.length->(if p a=true then L ((k+1:Nat):Int) else φ 1)->L k) (h:φ (if l.all p=true then 0 else 1)):L 0:=
 Alm (l:=l) (p:=p) (L:=L) (φ:=fun b=>φ (if b=true then 0 else 1)) (fun h=>stop (by simpa using h)) (fun k a ha hk h=>step k a ha hk (by simpa using h)) h
theorem q60_.spec {n:Int} {l:List api_FD} (hl:FdOK l):q60_.C n l (fdsE n l):=by
 obtain ⟨r,h1,h2⟩:=q60_.enter n l (fun r=>r=fdsE n l) (by
  by_cases a:n<0∨16<n
  ·have e:fdsE n l=7:=if_pos a;rw [e];by_cases b:n<0
   ·rw [if_pos b]
   ·rw [if_neg b,if_pos (by omega)]
  ·rw [if_neg (by omega),if_neg (by omega)];by_cases b:64<l.length
   ·have e:fdsE n l=3:=by unfold fdsE;rw [if_neg a,if_pos b]
    rw [e,if_pos (by omega)]
   ·have e:fdsE n l=if (l.all fun d=>inU n.toNat d.Lhs d.Rhs)=true then 0 else 1:=by unfold fdsE;rw [if_neg a,if_neg b]
    rw [e,if_neg (by omega)]
    ·obtain ⟨m,rfl⟩:∃ m:Nat,n=m:=⟨n.toNat,by omega⟩
     refine All (l:=l) (p:=fun d=>inU m d.Lhs d.Rhs) (L:=fun i=>q60_.L1 m l i _) (φ:=fun r=>r=_) ?_ ?_ rfl
     ·intro h;apply q60_.L1_step;rw [if_neg (by omega)];exact h
     ·intro k d hd hk h;apply q60_.L1_step;rw [if_pos (by omega)];refine ⟨d,Ab2 hd,by omega,?_⟩;have hd':=hl d (List.mem_of_getElem? hd);have e:=Ben (n:=m) hd'.1 hd'.2;rw [Aa4 (by omega)]
      split
      ·rename_i hh;rw [if_pos (e.1 hh)] at h;exact h
      ·rename_i hh;rw [if_neg (fun h3=>hh (e.2 h3))] at h;exact h)
 rw [← h1];exact h2
theorem q36_.spec {n:Int} {l:List api_FD} (hl:FdOK l):q36_.C n l (fdsE n l):=by
 obtain ⟨r,h1,h2⟩:=q36_.enter n l (fun r=>r=fdsE n l) (by
  by_cases a:n<0∨16<n
  ·have e:fdsE n l=7:=if_pos a;rw [e];by_cases b:n<0
   ·rw [if_pos b]
   ·rw [if_neg b,if_pos (by omega)]
  ·rw [if_neg (by omega),if_neg (by omega)];by_cases b:64<l.length
   ·have e:fdsE n l=3:=by unfold fdsE;rw [if_neg a,if_pos b]
    rw [e,if_pos (by omega)]
   ·have e:fdsE n l=if (l.all fun d=>inU n.toNat d.Lhs d.Rhs)=true then 0 else 1:=by unfold fdsE;rw [if_neg a,if_neg b]
    rw [e,if_neg (by omega)]
    ·obtain ⟨m,rfl⟩:∃ m:Nat,n=m:=⟨n.toNat,by omega⟩
     refine ⟨_,q51_.spec,?_⟩;refine All (l:=l) (p:=fun d=>inU m d.Lhs d.Rhs) (L:=fun i=>q36_.L1 l (Aco m) i _) (φ:=fun r=>r=_) ?_ ?_ rfl
     ·intro h;apply q36_.L1_step;rw [if_neg (by omega)];exact h
     ·intro k d hd hk h;apply q36_.L1_step;rw [if_pos (by omega)];have hd':=hl d (List.mem_of_getElem? hd);refine ⟨d,Ab2 hd,_,Arw (by omega) hd'.1,?_⟩;rw [Aa4 (by omega)];unfold inU at h
      split
      ·rename_i hh;refine ⟨_,Arw (by omega) hd'.2,?_⟩
       split
       ·rename_i h3;rw [if_pos (by rw [hh,h3];rfl)] at h;exact h
       ·rename_i h3;rw [if_neg (by rw [hh,Bool.true_and];exact h3)] at h;exact h
      ·rename_i hh;rw [if_neg (by rw [Bool.eq_false_iff.2 hh];simp)] at h;exact h)
 rw [← h1];exact h2
theorem Bbe {n:Int} {l:List api_FD} (h:fdsE n l=0):0<=n/\n<=16:=by
 unfold fdsE at h
 split at h
 ·cases h
 ·omega
def Ajr (l:List api_MVD):Prop:=∀ d∈l,U32 d.Lhs/\U32 d.Rhs
def basE (n:Int) (l:List api_FD) (m:List api_MVD):Int:=if fdsE n l=0 then (if 64<m.length then 3 else if (m.all fun d=>inU n.toNat d.Lhs d.Rhs)=true then 0 else 1) else fdsE n l
theorem q72_.spec {n:Int} {l:List api_FD} {m:List api_MVD} (hl:FdOK l) (hm:Ajr m):q72_.C n l m (basE n l m):=by
 obtain ⟨r,h1,h2⟩:=q72_.enter n l m (fun r=>r=basE n l m) (by
  refine ⟨_,q60_.spec hl,?_⟩;unfold basE
  split
  ·rename_i h0;have hn:=Bbe h0
   split
   ·rw [if_pos (by omega)]
   ·rw [if_neg (by omega)];obtain ⟨q,rfl⟩:∃ q:Nat,n=q:=⟨n.toNat,by omega⟩
    refine All (l:=m) (p:=fun d=>inU q d.Lhs d.Rhs) (L:=fun i=>q72_.L1 q m i _) (φ:=fun r=>r=_) ?_ ?_ rfl
    ·intro h;apply q72_.L1_step;rw [if_neg (by omega)];exact h
    ·intro k d hd hk h;apply q72_.L1_step;rw [if_pos (by omega)];refine ⟨d,Ab2 hd,by omega,?_⟩;have hd':=hm d (List.mem_of_getElem? hd);have e:=Ben (n:=q) hd'.1 hd'.2;rw [Aa4 (by omega)]
     split
     ·rename_i hh;rw [if_pos (e.1 hh)] at h;exact h
     ·rename_i hh;rw [if_neg (fun h3=>hh (e.2 h3))] at h;exact h
  ·rfl)
 rw [← h1];exact h2
theorem q27_.spec {n:Nat} {x:Int} (hn:n<=32) (hx:U32 x):q27_.C n x (decide (sN x<2^n)):=by
 obtain ⟨r,h1,h2⟩:=q27_.enter n x (fun r=>r=decide (sN x<2^n)) ⟨_,q51_.spec,_,Arw hn hx,rfl⟩;rw [← h1];exact h2
theorem q37_.spec {n:Int} {l:List api_FD} {m:List api_MVD} (hl:FdOK l) (hm:Ajr m):q37_.C n l m (basE n l m):=by
 obtain ⟨r,h1,h2⟩:=q37_.enter n l m (fun r=>r=basE n l m) (by
  refine ⟨_,q36_.spec hl,?_⟩;unfold basE
  split
  ·rename_i h0;have hn:=Bbe h0
   split
   ·rw [if_pos (by omega)]
   ·rw [if_neg (by omega)];obtain ⟨q,rfl⟩:∃ q:Nat,n=q:=⟨n.toNat,by omega⟩
    refine All (l:=m) (p:=fun d=>inU q d.Lhs d.Rhs) (L:=fun i=>q37_.L1 q m i _) (φ:=fun r=>r=_) ?_ ?_ rfl
    ·intro h;apply q37_.L1_step;rw [if_neg (by omega)];exact h
    ·intro k d hd hk h;apply q37_.L1_step;rw [if_pos (by omega)];have hd':=hm d (List.mem_of_getElem? hd);refine ⟨d,Ab2 hd,_,q27_.spec (by omega) hd'.1,?_⟩;rw [Aa4 (by omega)];unfold inU at h
     split
     ·rename_i hh;refine ⟨_,q27_.spec (by omega) hd'.2,?_⟩
      split
      ·rename_i h3;rw [if_pos (by rw [hh,h3];rfl)] at h;exact h
      ·rename_i h3;rw [if_neg (by rw [hh,Bool.true_and];exact h3)] at h;exact h
     ·rename_i hh;rw [if_neg (by rw [Bool.eq_false_iff.2 hh];simp)] at h;exact h
  ·rfl)
 rw [← h1];exact h2
theorem Aiu {t:api_Table} (ht:TV t) {n i k:Nat} (hn:n<2^32) (hi:i<t.Rows.length) (hk:k<t.Rows.length):Aei (t.Rows[i]).Values (t.Rows[k]).Values n=true↔∀ a,n.testBit a=true->EqA t i k a:=(agr hi hk).trans (Aws ht hn hi hk)
def MixP (t:api_Table) (left i k:Nat):Prop:=∃ j,j<t.Rows.length/\(∀ a,left.testBit a=true->EqA t j i a)/\∀ a,a<t.Attrs.length->left.testBit a=false->EqA t j k a
def MvP (t:api_Table) (l r:Nat):Prop:=∀ i k,i<t.Rows.length->k<t.Rows.length->(∀ a,l.testBit a=true->EqA t i k a)->MixP t (l ||| r) i k
theorem Anp {t:api_Table} (ht:TV t) {n i k:Nat} (hn:n<2^32) (hi:i<t.Rows.length) (hk:k<t.Rows.length):q35_.C (t.Rows[i]) (t.Rows[k]) n (Aei (t.Rows[i]).Values (t.Rows[k]).Values n):=by
 have mi:=List.getElem_mem hi;have mk:=List.getElem_mem hk;have na:=ht.na;have la:=ht.len mi;have lb:=ht.len mk;exact q35_.spec hn (by omega) (by omega) fun v hv=>by have:=Aum (ht.val mi v hv);unfold Big;omega
theorem Aww {n left:Nat} (hn:n<=16) {P:Nat->Prop}:(∀ a,(Ac1 (Aco n) left).testBit a=true->P a)↔∀ a,a<n->left.testBit a=false->P a:=by
 constructor
 ·intro h a ha hl;refine h a ?_;rw [Agg,Ak3,hl,decide_eq_true (by omega)];rfl
 ·intro h a ha;rw [Agg,Ak3,Bool.and_eq_true,Bool.not_eq_true',decide_eq_true_eq] at ha;exact h a (by omega) ha.2
theorem q38_.spec {t:api_Table} (ht:TV t) {left i k:Nat} (hl:left<2^32) (hi:i<t.Rows.length) (hk:k<t.Rows.length):∃ b,q38_.C t (t.Rows[i]) (t.Rows[k]) left b/\(b=true↔MixP t left i k):=by
 have na:=ht.na;have nr:=ht.nr;have hf:Aco t.Attrs.length<2^32:=Aw4;have hrest:Ac1 (Aco t.Attrs.length) left<2^32:=Nat.lt_of_le_of_lt Ahk hf;obtain ⟨b,h1,h2⟩:=q38_.enter t (t.Rows[i]) (t.Rows[k]) left (fun b=>(b=true↔MixP t left i k)) (by
  have go:∀ (d j:Nat),d+j=t.Rows.length->(∀ q,q<j->¬ ((∀ a,left.testBit a=true->EqA t q i a)/\∀ a,a<t.Attrs.length->left.testBit a=false->EqA t q k a))->q38_.L1 t (t.Rows[i]) (t.Rows[k]) left (j:Int) (fun b=>(b=true↔MixP t left i k)):=by
   intro d
   induction d with
   | zero=>
    intro j hd hno;apply q38_.L1_step;rw [if_neg (by omega)];simp only [Bool.false_eq_true,false_iff];rintro ⟨q,hq,h⟩;exact hno q (by omega) h
   | succ d ih=>
    intro j hd hno;have hj:j<t.Rows.length:=by omega
    have next:¬ ((∀ a,left.testBit a=true->EqA t j i a)/\∀ a,a<t.Attrs.length->left.testBit a=false->EqA t j k a)->q38_.L2 t (t.Rows[i]) (t.Rows[k]) left (j:Int) (fun b=>(b=true↔MixP t left i k)):=fun hn=>by
     apply q38_.L2_step;rw [Aa4 (by omega)];refine ih (j+1) (by omega) fun q hq=>?_;by_cases hqj:q=j
     ·subst hqj;exact hn
     ·exact hno q (by omega)
    apply q38_.L1_step;rw [if_pos (by omega)];refine ⟨t.Rows[j],Ab2 (List.getElem?_eq_getElem hj),_,Anp ht hl hj hi,?_⟩;by_cases ha:Aei (t.Rows[j]).Values (t.Rows[i]).Values left=true
    ·rw [if_pos ha];refine ⟨_,q51_.spec,?_⟩;rw [Akk (by simpa [top] using hf) (by simpa [top] using hl)];refine ⟨_,Anp ht hrest hj hk,?_⟩;by_cases hb:Aei (t.Rows[j]).Values (t.Rows[k]).Values (Ac1 (Aco t.Attrs.length) left)=true
     ·rw [if_pos hb];simp only [true_iff];exact ⟨j,hj,(Aiu ht hl hj hi).1 ha,(Aww na).1 ((Aiu ht hrest hj hk).1 hb)⟩
     ·rw [if_neg hb];exact next fun h=>hb ((Aiu ht hrest hj hk).2 ((Aww na).2 h.2))
    ·rw [if_neg ha];exact next fun h=>ha ((Aiu ht hl hj hi).2 h.1)
  exact go t.Rows.length 0 rfl fun q hq=>absurd hq (Nat.not_lt_zero q))
 exact ⟨b,h2,h1⟩
open Classical in
noncomputable def mvB (t:api_Table) (l r:Nat):Bool:=decide (MvP t l r)
theorem Aiw {t:api_Table} {l r:Nat}:mvB t l r=true↔MvP t l r:=by unfold mvB;exact @decide_eq_true_iff _ (Classical.propDecidable _)
theorem orI {l r:Int} (hl:U32 l) (hr:U32 r):bOr .u32 l r=((sN l ||| sN r:Nat):Int):=by
 conv=>lhs;rw [hl.eq,hr.eq]
 exact Aku hl.top hr.top
theorem Aqy {n:Nat} {l r:Int}:inU n l r=true↔sN l ||| sN r<2^n:=by
 unfold inU;rw [Bool.and_eq_true,decide_eq_true_eq,decide_eq_true_eq,Av6]
noncomputable def Aft (t:api_Table) (m:api_MVD):Bool×Int:=if inU t.Attrs.length m.Lhs m.Rhs=true then (mvB t (sN m.Lhs) (sN m.Rhs),0) else (false,1)
namespace q39_
theorem loop {t:api_Table} (ht:TV t) {m:api_MVD} (hl:U32 m.Lhs) (hr:U32 m.Rhs) {φ:Bool×Int->Prop} (hf:¬ MvP t (sN m.Lhs) (sN m.Rhs)->φ (false,0)) (hp:MvP t (sN m.Lhs) (sN m.Rhs)->φ (true,0)) :
  ∀ (d i:Nat),d+i=t.Rows.length->(∀ q k,q<i->k<t.Rows.length->(∀ a,(sN m.Lhs).testBit a=true->EqA t q k a)->MixP t (sN m.Lhs ||| sN m.Rhs) q k)->L1 t m (i:Int) φ:=by
 have na:=ht.na;have nr:=ht.nr;have hor:sN m.Lhs ||| sN m.Rhs<2^32:=Nat.or_lt_two_pow hl.lt hr.lt
 intro d
 induction d with
 | zero=>
  intro i hd hdone;apply L1_step;rw [if_neg (by omega)];exact hp fun q k hq hk=>hdone q k (by omega) hk
 | succ d ih=>
  intro i hd hdone;have hi:i<t.Rows.length:=by omega
  apply L1_step;rw [if_pos (by omega)];have inner:∀ (c k:Nat),c+k=t.Rows.length->(∀ q,q<k->(∀ a,(sN m.Lhs).testBit a=true->EqA t i q a)->MixP t (sN m.Lhs ||| sN m.Rhs) i q)->L2 t m (i:Int) (k:Int) φ:=by
   intro c
   induction c with
   | zero=>
    intro k hc hk2;apply L2_step;rw [if_neg (by omega),Aa4 (by omega)];refine ih (i+1) (by omega) fun q k' hq hk'=>?_;by_cases hqi:q=i
    ·subst hqi;exact hk2 k' (by omega)
    ·exact hdone q k' (by omega) hk'
   | succ c ihc=>
    intro k hc hk2;have hk:k<t.Rows.length:=by omega
    have next:((∀ a,(sN m.Lhs).testBit a=true->EqA t i k a)->MixP t (sN m.Lhs ||| sN m.Rhs) i k)->L3 t m (i:Int) (k:Int) φ:=fun hn=>by
     apply L3_step;rw [Aa4 (by omega)];refine ihc (k+1) (by omega) fun q hq=>?_;by_cases hqk:q=k
     ·subst hqk;exact hn
     ·exact hk2 q (by omega)
    apply L2_step;rw [if_pos (by omega)];have hag:=Anp ht hl.lt hi hk;rw [← hl.eq] at hag;refine ⟨t.Rows[i],Ab2 (List.getElem?_eq_getElem hi),t.Rows[k],Ab2 (List.getElem?_eq_getElem hk),_,hag,?_⟩;by_cases ha:Aei (t.Rows[i]).Values (t.Rows[k]).Values (sN m.Lhs)=true
    ·rw [if_pos ha,orI hl hr];obtain ⟨b,hb,hbi⟩:=q38_.spec ht hor hi hk;refine ⟨b,hb,?_⟩;by_cases hbt:b=true
     ·rw [if_pos hbt];exact next fun _=>hbi.1 hbt
     ·rw [if_neg hbt];exact hf fun h=>hbt (hbi.2 (h i k hi hk ((Aiu ht hl.lt hi hk).1 ha)))
    ·rw [if_neg ha];exact next fun h=>absurd ((Aiu ht hl.lt hi hk).2 h) ha
  exact inner t.Rows.length 0 rfl fun q hq=>absurd hq (Nat.not_lt_zero q)
theorem spec {t:api_Table} (ht:TV t) {m:api_MVD} (hl:U32 m.Lhs) (hr:U32 m.Rhs):C t m (Aft t m):=by
 have na:=ht.na;obtain ⟨r,h1,h2⟩:=enter t m (fun r=>r=Aft t m) (by
  refine ⟨_,q33_.spec,?_⟩;rw [if_pos (Aeg.2 ht)];have hw:=q27_.spec (n:=t.Attrs.length) (x:=bOr .u32 m.Lhs m.Rhs) (by omega) (by rw [orI hl hr];exact U32.of (Nat.or_lt_two_pow hl.lt hr.lt));refine ⟨_,hw,?_⟩;unfold Aft;have e:sN (bOr .u32 m.Lhs m.Rhs)=sN m.Lhs ||| sN m.Rhs:=by rw [orI hl hr,Bcd]
  by_cases hin:inU t.Attrs.length m.Lhs m.Rhs=true
  ·rw [if_pos (by rw [e,decide_eq_true_eq];exact Aqy.1 hin),if_pos hin];refine loop ht hl hr (fun hn=>?_) (fun hy=>by rw [Aiw.2 hy]) t.Rows.length 0 rfl fun q k hq=>absurd hq (Nat.not_lt_zero q);cases hb:mvB t (sN m.Lhs) (sN m.Rhs) with
   | false=>rfl
   | true=>exact absurd (Aiw.1 hb) hn
  ·rw [if_neg (by rw [e,decide_eq_true_eq];exact fun h=>hin (Aqy.2 h)),if_neg hin])
 rw [← h1];exact h2
end q39_
theorem Aw0 {a b:List api_Value} (hl:a.length=b.length):∀ {l:List Nat},(l.filterMap fun i=>a[i]?).length=(l.filterMap fun i=>b[i]?).length
 | []=>rfl
 | k::l=>by
  have ih:=Aw0 (a:=a) (b:=b) hl (l:=l);by_cases h:k<a.length
  ·have e1:=List.getElem?_eq_getElem h;have e2:=List.getElem?_eq_getElem (l:=b) (i:=k) (by omega);simp only [List.filterMap_cons,e1,e2,List.length_cons,ih]
  ·have e1:a[k]? = none:=List.getElem?_eq_none (by omega);have e2:b[k]? = none:=List.getElem?_eq_none (by omega);simp only [List.filterMap_cons,e1,e2,ih]
def ofP (t:api_Table) (n:Nat):api_Partition:=part (Ad5 t n)
theorem Be1 {t:api_Table} {n:Nat} (h:TV t) (hn:TNum t):part (t.Rows.map fun r=>Aav (pick r.Values n))=ofP t n:=by
 unfold ofP Ad5;refine Bcn (by simp) fun i j hi hj=>?_;rw [List.length_map] at hi hj;rw [List.getElem?_map,List.getElem?_map,List.getElem?_map,List.getElem?_map,List.getElem?_eq_getElem hi,List.getElem?_eq_getElem hj];simp only [Option.map_some,zJ];have m1:=List.getElem_mem hi;have m2:=List.getElem_mem hj;refine An8 (Aw0 (by rw [h.len m1,h.len m2])) (fun v hv=>?_) (fun v hv=>?_)
 ·exact ⟨h.val m1 v (Af8 v hv),hn _ m1 v (Af8 v hv)⟩
 ·exact ⟨h.val m2 v (Af8 v hv),hn _ m2 v (Af8 v hv)⟩
namespace q66_
theorem inner {t:api_Table} {n:Nat} {φ:api_Partition->Prop} {ks:List ByteArray} {k:Nat} {r:api_Row} (ht:TV t) (hn:n<2^t.Attrs.length) (hr:r∈t.Rows) (hk:k<1000) (hkk:k<ks.length)
  (h:L1 t ((Aan n).map fun (i:Nat)=>(i:Int)) (ks.set k (Aav (pick r.Values n))) ((k+1:Nat):Int) φ):∀ j,j<=(Aan n).length ->
  L2 t ((Aan n).map fun (i:Nat)=>(i:Int)) ks k r ((Acq (((Aan n).take j).filterMap fun i=>r.Values[i]?)).map b8) k j φ:=by
 have hn32:n<2^32:=Nat.lt_of_lt_of_le hn (Nat.pow_le_pow_right (by decide) (by have:=ht.na;omega));have hl:=Agl (n:=n);refine down ?_ ?_
 ·apply L2_step;rw [List.length_map,if_neg (by omega),List.take_length];refine ⟨ks[k],by rw [Ach];exact List.getElem?_eq_getElem hkk,?_⟩;rw [Aa4 (by omega)];have e:lset ks (k:Int) (Aav (pick r.Values n))=ks.set k (Aav (pick r.Values n)):=by simp [lset]
  unfold Aav pick at e h;rw [e];exact h
 ·intro j hj h;apply L2_step;rw [List.length_map,if_pos (by omega)];have hget:=List.getElem?_eq_getElem hj;generalize (Aan n)[j]=i at hget;have hi:=(Acj hn32).1 (List.mem_of_getElem? hget);have hilt:i<t.Attrs.length:=by
   false_or_by_contra
   rename_i hh;rw [Nat.testBit_lt_two_pow (Nat.lt_of_lt_of_le hn (Nat.pow_le_pow_right (by decide) (by omega)))] at hi;cases hi
  have hrl:=ht.len hr;have hv:=List.getElem?_eq_getElem (l:=r.Values) (i:=i) (by omega);generalize r.Values[i]'(by omega)=v at hv;have hval:=ht.val hr v (List.mem_of_getElem? hv);refine ⟨(i:Int),by rw [Ach,List.getElem?_map,hget];rfl,v,Ab2 hv,(keyW v,0),q74_.spec hval,?_⟩;have hsum:∀ l:List api_Value,(∀ v∈l,Aap v=true)->(Acq l).length<=403*l.length:=by
   intro l
   induction l with
   | nil=>simp [Acq]
   | cons a l ih=>
    intro hh;have:=ih fun v hv=>hh v (by simp [hv]);have h2:=Am2 (hh a (by simp));simp only [Acq,List.flatMap_cons,List.length_append,List.length_cons] at this ⊢;omega
  have h1:=hsum (((Aan n).take j).filterMap fun i=>r.Values[i]?) (fun v hv=>by
   obtain ⟨i,_,hi⟩:=List.mem_filterMap.1 hv
   exact ht.val hr v (List.mem_of_getElem? hi))
  have h2:(((Aan n).take j).filterMap fun i=>r.Values[i]?).length<=32:=Nat.le_trans (List.length_filterMap_le _ _) (by rw [List.length_take];omega);have h3:=Am2 hval;refine ⟨?_,?_⟩
  ·rw [List.length_map];have:(keyW v).size=(keyJ v).length:=Au1;simp only [this];omega
  ·rw [Aa4 (by omega)];have e:(((Aan n).take (j+1)).filterMap fun i=>r.Values[i]?)=(((Aan n).take j).filterMap fun i=>r.Values[i]?)++[v]:=by
    rw [List.take_add_one,hget,List.filterMap_append];simp [hv]
   rw [e] at h;simp only [Acq,List.flatMap_append,List.map_append] at h;rw [Au0];simpa [Acq] using h
theorem spec {t:api_Table} {n:Nat} (ht:TV t) (hnum:TNum t) (hn:n<2^t.Attrs.length):C t n (ofP t n):=by
 have hn32:n<2^32:=Nat.lt_of_lt_of_le hn (Nat.pow_le_pow_right (by decide) (by have:=ht.na;omega));have hr:=ht.nr;obtain ⟨q,h1,h2⟩:=enter t n (fun q=>q=ofP t n) (by
  refine ⟨_,q50_.spec hn32,by omega,?_⟩;have loop:∀ k,k<=t.Rows.length->L1 t ((Aan n).map fun (i:Nat)=>(i:Int)) ((t.Rows.take k).map (fun r=>Aav (pick r.Values n))++List.replicate (t.Rows.length-k) (⟨#[]⟩:ByteArray)) k fun q=>q=ofP t n:=by
   refine down ?_ ?_
   ·apply L1_step;rw [if_neg (by omega),List.take_length,Nat.sub_self,List.replicate_zero,List.append_nil];refine ⟨_,q11_.spec (by rw [List.length_map];omega),?_⟩;rw [← Be1 ht hnum];simp [part]
   ·intro k hk h;apply L1_step;rw [if_pos (by omega)];have hget:=List.getElem?_eq_getElem hk;generalize t.Rows[k]=r at hget;refine ⟨r,Ab2 hget,?_⟩;have:=inner (t:=t) (n:=n) (φ:=fun q=>q=ofP t n) (ks:=(t.Rows.take k).map (fun r=>Aav (pick r.Values n))++List.replicate (t.Rows.length-k) (⟨#[]⟩:ByteArray)) (k:=k) (r:=r) ht hn (List.mem_of_getElem? hget) (by omega) (by simp [List.length_take];omega) (by
     have e:((t.Rows.take k).map (fun r=>Aav (pick r.Values n))++List.replicate (t.Rows.length-k) (⟨#[]⟩:ByteArray)).set k (Aav (pick r.Values n))=(t.Rows.take (k+1)).map (fun r=>Aav (pick r.Values n))++List.replicate (t.Rows.length-(k+1)) (⟨#[]⟩:ByteArray):=by
      have hl:((t.Rows.take k).map (fun r=>Aav (pick r.Values n))).length=k:=by rw [List.length_map,List.length_take];omega
      obtain ⟨m,hm⟩:∃ m,t.Rows.length-k=m+1:=⟨t.Rows.length-k-1,by omega⟩
      rw [List.set_append_right _ _ (by omega),hl,Nat.sub_self,hm,List.replicate_succ,List.set_cons_zero,List.take_add_one,hget];have:t.Rows.length-(k+1)=m:=by omega
      rw [this];simp
     rw [e];exact h) 0 (Nat.zero_le _)
    simpa [Acq] using this
  have:=loop 0 (Nat.zero_le _)
  simpa using this)
 rw [← h1];exact h2
end q66_
theorem q41_.spec {t:api_Table} {n:Nat} (hn:n<2^32):q41_.C t n (decide (n<2^t.Attrs.length)):=by
 obtain ⟨q,h1,h2⟩:=q41_.enter t n (fun q=>q=decide (n<2^t.Attrs.length)) (by
  refine ⟨by omega,?_⟩;have hn64:n<2^top .u64:=Nat.lt_of_lt_of_le hn (by decide);rw [Aff hn64,Ajk hn64];have:(((n / 2^t.Attrs.length:Nat):Int)=0)↔n<2^t.Attrs.length:=by
   have hp:0<2^t.Attrs.length:=Nat.pos_of_ne_zero (by simp);constructor
   ·intro h;have h2:n / 2^t.Attrs.length=0:=by omega
    rw [Nat.div_eq_zero_iff] at h2;omega
   ·intro h;rw [Nat.div_eq_of_lt h];rfl
  by_cases hh:n<2^t.Attrs.length
  ·simp [hh,this.2 hh]
  ·have h3:¬ ((n / 2^t.Attrs.length:Nat):Int)=0:=fun h=>hh (this.1 h);rw [decide_eq_false hh]
   simpa using h3)
 rw [← h1];exact h2
namespace q14_
theorem inner {t:api_Table} {fd:api_FD} {l r:Nat} {φ:Bool->Prop} {i:Nat} (ht:TV t) (el:fd.Lhs=l) (er:fd.Rhs=r) (hl:l<2^32) (hr:r<2^32) (hi:i<t.Rows.length) (hf:¬ SatP t l r->φ false)
  (h:(∀ k,k<i->OkP t l r i k)->L1 t fd ((i+1:Nat):Int) φ):∀ k,k<=i->((∀ j,j<k->OkP t l r i j)->L2 t fd i k φ):=by
 have nr:=ht.nr;have na:=ht.na;refine down ?_ ?_
 ·intro hk;apply L2_step;rw [if_neg (by omega),Aa4 (by omega)];exact h hk
 ·intro k hk ih hj;apply L2_step;rw [if_pos (by omega)];have mi:=List.getElem_mem hi;have mk:=List.getElem_mem (l:=t.Rows) (n:=k) (by omega);have sv:∀ v∈(t.Rows[i]).Values,v.Str.toList.length<Big:=fun v hv=>by have:=Aum (ht.val mi v hv);unfold Big;omega
  have la:=ht.len mi;have lb:=ht.len mk;have next:OkP t l r i k->L3 t fd i k φ:=fun ho=>by
   apply L3_step;rw [Aa4 (by omega)];refine ih fun j hjk=>?_;by_cases hjj:j=k
   ·subst hjj;exact ho
   ·exact hj j (by omega)
  refine ⟨t.Rows[i],Ab2 (List.getElem?_eq_getElem hi),t.Rows[k],Ab2 (List.getElem?_eq_getElem (by omega)),_,by rw [el];exact q35_.spec hl (by omega) (by omega) sv,?_⟩
  split
  ·rename_i h1;refine ⟨_,by rw [er];exact q35_.spec hr (by omega) (by omega) sv,?_⟩
   split
   ·rename_i h2;exact next fun _=>(agr hi (by omega)).1 h2
   ·rename_i h2;refine hf fun hs=>h2 ?_;exact (agr hi (by omega)).2 (hs i k hi hk ((agr hi (by omega)).1 h1))
  ·rename_i h1;exact next fun hh=>absurd ((agr hi (by omega)).2 hh) h1
theorem spec {t:api_Table} {fd:api_FD} {l r:Nat} (ht:TV t) (el:fd.Lhs=l) (er:fd.Rhs=r) (hl:l<2^32) (hr:r<2^32):∃ b,C t fd b/\(b=true↔SatP t l r):=by
 obtain ⟨b,h1,h2⟩:=enter t fd (fun b=>(b=true↔SatP t l r)) (by
  have nr:=ht.nr;have hf:¬ SatP t l r->(false=true↔SatP t l r):=fun h=>by simp [h]
  have loop:∀ i,i<=t.Rows.length->((∀ a,a<i->∀ k,k<a->OkP t l r a k)->L1 t fd i fun b=>(b=true↔SatP t l r)):=by
   refine down ?_ ?_
   ·intro h;apply L1_step;rw [if_neg (by omega)];simp only [true_iff];exact fun i k hi hk=>h i hi k hk
   ·intro i hi ih hh;apply L1_step;rw [if_pos (by omega)];refine inner ht el er hl hr hi hf (fun hk=>ih fun a ha k hka=>?_) 0 (Nat.zero_le _) (fun j hj=>by omega);by_cases hai:a=i
    ·subst hai;exact hk k hka
    ·exact hh a (by omega) k hka
  exact loop 0 (Nat.zero_le _) (fun a ha=>by omega))
 exact ⟨b,h2,h1⟩
end q14_
theorem Bcs {t:api_Table} (hr:t.Rows.length<=1000) {l r:Nat}:RefP (ofP t l) (ofP t r)↔SatP t l r:=by
 have hb:Ajx (ofP t l) (ofP t r)=0:=by
  have v1:Ac9 (ofP t l)=true:=Am6 (by rw [Af9];exact hr);have v2:Ac9 (ofP t r)=true:=Am6 (by rw [Af9];exact hr);have e:(ofP t l).Rows=(ofP t r).Rows:=by simp [ofP,part,Af9]
  simp [Ajx,v1,v2,e]
 have er:(ofP t l).Rows=(t.Rows.length:Int):=by simp [ofP,part,Af9]
 have key:∀ (n i j:Nat),i<t.Rows.length->j<t.Rows.length->(Same (ofP t n) i j↔(Ad5 t n)[i]? = (Ad5 t n)[j]?):=fun n i j hi hj=>by
  unfold ofP;rw [Bc4 (by rw [Af9];omega) (by rw [Af9];omega),Ach,Ach]
 constructor
 ·rintro ⟨_,h⟩ i k hi hk e;exact (key r i k hi (by omega)).1 (h i k (by omega) (by omega) ((key l i k hi (by omega)).2 e))
 ·intro h;refine ⟨hb,fun i j hi hj hs=>?_⟩;obtain ⟨i,rfl⟩:∃ n:Nat,i=n:=⟨i.toNat,by omega⟩
  obtain ⟨j,rfl⟩:∃ n:Nat,j=n:=⟨j.toNat,by omega⟩
  exact (key r i j (by omega) (by omega)).2 (h.all (by omega) (by omega) ((key l i j (by omega) (by omega)).1 hs))
def Aj6 (t:api_Table) (l r:Nat):Int:=if Abh t=0 then (if l ||| r<2^t.Attrs.length then 0 else 6) else Abh t
theorem q55_.spec {t:api_Table} {fd:api_FD} {l r:Nat} (hnum:TNum t) (el:fd.Lhs=l) (er:fd.Rhs=r) (hl:l<2^32) (hr:r<2^32):∃ q,q55_.C t fd q/\q.2=Aj6 t l r/\(q.1=true↔Aj6 t l r=0/\SatP t l r):=by
 obtain ⟨q,h1,h2⟩:=q55_.enter t fd (fun q=>q.2=Aj6 t l r/\(q.1=true↔Aj6 t l r=0/\SatP t l r)) (by
  refine ⟨_,q71_.spec,?_⟩;unfold Aj6
  split
  ·rename_i h0;have ht:=Aeg.1 h0;rw [el,er,Aku (k:=.u32) (by simpa [top] using hl) (by simpa [top] using hr)];refine ⟨_,q41_.spec (Nat.or_lt_two_pow hl hr),?_⟩;by_cases hh:l ||| r<2^t.Attrs.length
   ·rw [if_pos (decide_eq_true hh),if_pos hh];have hll:l<2^t.Attrs.length:=Nat.lt_of_le_of_lt Nat.left_le_or hh;have hrr:r<2^t.Attrs.length:=Nat.lt_of_le_of_lt Nat.right_le_or hh;have sm:∀ m,Ahq (ofP t m):=fun m=>Ba1 (by rw [Af9];exact ht.nr);obtain ⟨b,hb,hbi⟩:=q28_.spec (sm l) (sm r);refine ⟨_,q66_.spec ht hnum hll,_,q66_.spec ht hnum hrr,b,hb,rfl,?_⟩;rw [hbi,Bcs ht.nr];simp
   ·rw [if_neg (by simpa using hh),if_neg hh];simp
  ·rename_i h0;simp [h0])
 exact ⟨q,h2,h1⟩
end Go.Own
