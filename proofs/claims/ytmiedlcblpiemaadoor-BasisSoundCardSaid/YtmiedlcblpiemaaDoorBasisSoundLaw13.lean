/- What the functions answer. No conditions. -/
import Derived.Test.YtmiedlcblpiemaaDoorBasisSoundLaw8
import Derived.Test.YtmiedlcblpiemaaDoorBasisSoundLaw10
import Derived.Test.YtmiedlcblpiemaaDoorBasisSoundLaw1
set_option linter.all false
namespace Go.Own
def letB (x:Int):Bool:=decide (97<=x/\x<=122∨65<=x/\x<=90∨x=95)
def alnB (x:Int):Bool:=letB x || decide (48<=x/\x<=57)
def Aoq:List UInt8:=[110,117,108,108]
theorem Ay0:((⟨#[110,117,108,108]⟩:ByteArray)).toList=Aoq:=Alx (l:=Aoq)
theorem Avi:((⟨#[]⟩:ByteArray)).toList=[]:=Alx (l:=[])
def Abk:List UInt8->Bool
 | []=>false
 | b::r=>decide (r.length<24)&&letB (u8i b)&&!decide (b::r=Aoq)&&r.all fun b=>alnB (u8i b)
def Afw (s:ByteArray):Bool:=Abk s.toList
namespace q31_
theorem spec {x : Int} : C x (letB x) := by
  obtain ⟨r, h1, h2⟩ := enter x (fun r => r = letB x) (by
    unfold letB
    repeat' split
    all_goals first
      | (symm; rw [decide_eq_true_iff]; omega)
      | (by_cases h : x = 95
         · simp [h]
         · have : (x == 95) = false := by simpa using h
           rw [this]; symm; rw [decide_eq_false_iff_not]; omega))
  rw [← h1]; exact h2
end q31_
theorem Avc {φ:Bool->Prop} {P:Prop} {x:Int} (h:if alnB x=true then P else φ false) (hl:¬ letB x=true):if x<48 then φ false else if 57<x then φ false else P:=by
 have e:alnB x=decide (48<=x/\x<=57):=by unfold alnB;rw [Bool.eq_false_iff.2 hl,Bool.false_or]
 rw [e] at h
 repeat' split
 ·rw [if_neg (by rw [decide_eq_true_iff];omega)] at h;exact h
 ·rw [if_neg (by rw [decide_eq_true_iff];omega)] at h;exact h
 ·rw [if_pos (by rw [decide_eq_true_iff];omega)] at h;exact h
namespace q45_
theorem spec {s:ByteArray}:C s (Afw s):=by
 obtain ⟨r,h1,h2⟩:=enter s (fun r=>r=Afw s) (by
  unfold Afw;rw [Ac9,Ay0];cases hs:s.toList with
  | nil=>simp [Abk]
  | cons b t=>
   rw [if_neg (by simp;omega)]
   split
   ·rename_i hn;have hn:24<=t.length:=by simp at hn;omega
    simp [Abk];omega
   ·rename_i hn;have hn:t.length<24:=by simp at hn;omega
    refine ⟨b,Ae5 (by rw [hs];rfl),letB (u8i b),q31_.spec,?_⟩
    split
    ·rename_i hb
     split
     ·rename_i h0;simp [Abk,Aoq,h0]
     ·rename_i h0;refine Aj5 (l:=s.toList) (p:=fun b=>alnB (u8i b)) (L:=fun i=>L1 s i fun r=>r=Abk (b::t)) (φ:=fun r=>r=Abk (b::t)) ?_ ?_ ?_
      ·intro h;apply L1_step;rw [Ac9,if_neg (by omega)];exact h
      ·intro k c hc hk h;apply L1_step;rw [Ac9,if_pos (by omega)];have next:L1 s ((k+1:Nat):Int) (fun r=>r=Abk (b::t))->L2 s k fun r=>r=Abk (b::t):=fun h=>by
        apply L2_step;have hsl:s.toList.length=(b::t).length:=by rw [hs]
        simp at hsl;rw [Aa9 (by omega)];exact h
       refine ⟨c,Ae5 hc,_,q31_.spec,?_⟩
       split
       ·rename_i hl;rw [if_pos (by unfold alnB;rw [hl];rfl)] at h;exact next h
       ·rename_i hl;have h3:=Avc (φ:=fun r=>r=Abk (b::t)) (P:=L2 s k fun r=>r=Abk (b::t)) (by
         split
         ·rename_i hh;rw [if_pos hh] at h;exact next h
         ·rename_i hh;rw [if_neg hh] at h;exact h) hl
        refine ⟨c,Ae5 hc,?_⟩
        split
        ·rename_i h4;rw [if_pos h4] at h3;exact h3
        ·rename_i h4;rw [if_neg h4] at h3;exact ⟨c,Ae5 hc,h3⟩
      ·rw [hs];have e:alnB (u8i b)=true:=by unfold alnB;rw [hb];rfl
       simp only [List.all_cons,e,Bool.true_and,Abk,hb,h0,decide_false,Bool.not_false,Bool.and_true];simp [hn]
    ·rename_i hb
     simp [Abk,hb])
 rw [← h1];exact h2
end q45_
namespace q67_
theorem two {s:ByteArray} {i:Int} {φ:Bool->Prop} {x:Int} (h:if letB x=true then L3 s i φ else if i=0 then φ false else if x<48 then φ false else if 57<x then φ false else L3 s i φ):L2 s i x (letB x) φ:=by
 apply L2_step;exact h
theorem spec {s : ByteArray} : C s (Afw s) := by
  obtain ⟨r, h1, h2⟩ := enter s (fun r => r = Afw s) (by
    unfold Afw;rw [Ac9, Ay0, Avi];cases hs : s.toList with
    | nil => simp [Abk]
    | cons b t =>
      rw [if_neg (by simp)]
      split
      · rename_i hn
        have hn : 24 <= t.length := by simp at hn; omega
        simp [Abk]; omega
      · rename_i hn
        have hn : t.length < 24 := by simp at hn; omega
        have hlen : s.toList.length = t.length + 1 := by rw [hs]; rfl
        split
        · rename_i h0
          simp [Abk, Aoq, h0]
        · rename_i h0
          have body : ∀ (k : Nat) c, s.toList[k]? = some c -> (if letB (u8i c) = true then L1 s ((k + 1 : Nat) : Int) (fun r => r = Abk (b :: t)) else if (k : Int) = 0 then false = Abk (b :: t) else if (u8i c) < 48 then false = Abk (b :: t) else if 57 < (u8i c) then false = Abk (b :: t) else L1 s ((k + 1 : Nat) : Int) (fun r => r = Abk (b :: t))) -> L1 s k (fun r => r = Abk (b :: t)) := by
            intro k c hc h;have hk := (List.getElem?_eq_some_iff.1 hc).1;apply L1_step;rw [Ac9, if_pos (by omega)];refine ⟨c, Ae5 hc, ?_⟩;have next : L1 s ((k + 1 : Nat) : Int) (fun r => r = Abk (b :: t)) -> L3 s k fun r => r = Abk (b :: t) := fun h => by
              apply L3_step;rw [Aa9 (by omega)];exact h
            have key : L2 s k (u8i c) (letB (u8i c)) fun r => r = Abk (b :: t) := by
              apply two
              split
              · rename_i hh; rw [if_pos hh] at h; exact next h
              · rename_i hh; rw [if_neg hh] at h
                split
                · rename_i h2; rw [if_pos h2] at h; exact h
                · rename_i h2; rw [if_neg h2] at h
                  split
                  · rename_i h3; rw [if_pos h3] at h; exact h
                  · rename_i h3; rw [if_neg h3] at h
                    split
                    · rename_i h4; rw [if_pos h4] at h; exact h
                    · rename_i h4; rw [if_neg h4] at h; exact next h
            have e : ∀ v, v = letB (u8i c) -> L2 s k (u8i c) v fun r => r = Abk (b :: t) := by rintro _ rfl; exact key
            repeat' split
            all_goals apply e
            all_goals unfold letB
            all_goals first
              | (symm; rw [decide_eq_true_iff]; omega)
              | (by_cases h : u8i c = 95
                 · simp [h]
                 · have : (u8i c == 95) = false := by simpa using h
                   rw [this]; symm; rw [decide_eq_false_iff_not]; omega)
          have h0s : s.toList[0]? = some b := by rw [hs]; rfl
          refine body 0 b h0s ?_
          split
          · rename_i hb
            have rest := Aj5 (l := t) (p := fun b => alnB (u8i b)) (L := fun i => L1 s (i + 1) fun r => r = Abk (b :: t)) (φ := fun r => r = Abk (b :: t)) ?_ ?_ ?_
            · simpa using rest
            · intro h
              apply L1_step;rw [Ac9, if_neg (by omega)]; exact h
            · intro k c hc hk h
              have e1 : ((k : Nat) : Int) + 1 = ((k + 1 : Nat) : Int) := by omega
              rw [e1];refine body (k + 1) c (by rw [hs]; simpa using hc) ?_
              split
              · rename_i hl
                rw [if_pos (by unfold alnB; rw [hl]; rfl)] at h;exact h
              · rename_i hl
                rw [if_neg (by omega)];exact Avc (φ := fun r => r = Abk (b :: t)) h hl
            · simp [Abk, hb, h0, hn]
          · rename_i hb
            simp [Abk, hb])
  rw [← h1]; exact h2
end q67_
def eqS (x a:ByteArray):Bool:=decide (a=x)
def Afx:List ByteArray->List ByteArray->Bool
 | _,[]=>true
 | pre,a::r=>Afw a&&!pre.any (eqS a)&&Afx (pre++[a]) r
def Ads (l:List ByteArray):Bool:=Afx [] l
namespace q20_
theorem spec {l:List ByteArray} {x:ByteArray} (hn:l.length<Big):C l x (ixI (eqS x) l):=by
 obtain ⟨r,h1,h2⟩:=enter l x (fun r=>r=ixI (eqS x) l) (by
  refine Am6 (l:=l) (p:=eqS x) (L:=fun i=>L1 l x i _) (φ:=fun r=>r=ixI (eqS x) l) ?_ ?_ rfl
  ·intro h;apply L1_step;rw [if_neg (by omega)];exact h
  ·intro k a ha hk h;apply L1_step;rw [if_pos (by omega)];refine ⟨a,Abb ha,?_⟩;rw [Aa9 (by unfold Big at hn;omega)]
   split
   ·rename_i hh;rw [if_pos (by simp [eqS,Aj6.1 hh])] at h;exact h
   ·rename_i hh;rw [if_neg (by simp only [eqS,decide_eq_true_eq];rintro rfl;exact hh rfl)] at h;exact h)
 rw [← h1];exact h2
end q20_
theorem q19_.spec {l:List ByteArray} {x:ByteArray} (hn:l.length<Big):q19_.C l x (l.any (eqS x)):=by
 obtain ⟨r,h1,h2⟩:=q19_.enter l x (fun r=>r=l.any (eqS x)) ⟨_,q20_.spec hn,by rw [Asu]⟩;rw [← h1];exact h2
namespace q46_
theorem spec {l:List ByteArray} {x:ByteArray} (hn:l.length<Big):C l x (ixI (eqS x) l):=by
 obtain ⟨r,h1,h2⟩:=enter l x (fun r=>r=ixI (eqS x) l) (by
  refine Am6 (l:=l) (p:=eqS x) (L:=fun i=>L1 l x i _) (φ:=fun r=>r=ixI (eqS x) l) ?_ ?_ rfl
  ·intro h;apply L1_step;rw [if_neg (by omega)];exact h
  ·intro k a ha hk h;apply L1_step;rw [if_pos (by omega)];refine ⟨a,Abb ha,?_⟩;rw [Aa9 (by unfold Big at hn;omega)]
   split
   ·rename_i hh;rw [if_pos (by simp [eqS,Aj6.1 hh])] at h;exact h
   ·rename_i hh;rw [if_neg (by simp only [eqS,decide_eq_true_eq];rintro rfl;exact hh rfl)] at h;exact h)
 rw [← h1];exact h2
end q46_
theorem Arj {l : List ByteArray} {L : Int -> Prop} {P Q : Prop} (stop : P -> L (l.length : Int))
    (step : ∀ (k : Nat) a, l[k]? = some a -> k < l.length -> (if Afw a = true then (if (l.take k).any (eqS a) = true then Q else L ((k + 1 : Nat) : Int)) else Q) -> L k) (h : Ads l = true -> P) (h' : Ads l = false -> Q) : L 0 := by
  have : ∀ (r : List ByteArray) (k : Nat), l.drop k = r -> k <= l.length -> (Afx (l.take k) r = true -> P) -> (Afx (l.take k) r = false -> Q) -> L k := by
    intro r
    induction r with
    | nil => intro k hd hk h h'; have : k = l.length := by have := Ach hd; omega
             subst this; exact stop (h rfl)
    | cons a r ih =>
      intro k hd hk h h';have hlt := Aci hd;refine step k a (Aba hd) hlt ?_;have hn := ih (k + 1) (Abq hd) hlt;have e : l.take (k + 1) = l.take k ++ [a] := by rw [List.take_add_one, Aba hd]; rfl
      rw [e] at hn;simp only [Afx] at h h'
      split
      · rename_i h1
        split
        · rename_i h2
          exact h' (by simp [h1, h2])
        · rename_i h2
          have h2 := Bool.eq_false_iff.2 h2;exact hn (fun hh => h (by simp [h1, h2, hh])) (fun hh => h' (by simp [h1, h2, hh]))
      · rename_i h1
        have h1 := Bool.eq_false_iff.2 h1;exact h' (by simp [h1])
  exact this l 0 rfl (Nat.zero_le _) h h'
theorem q36_.spec {l:List ByteArray} (hn:l.length<Big):q36_.C l (Ads l):=by
 obtain ⟨r,h1,h2⟩:=q36_.enter l (fun r=>r=Ads l) (by
  refine Arj (l:=l) (L:=fun i=>q36_.L1 l i _) (P:=true=Ads l) (Q:=false=Ads l) ?_ ?_ Eq.symm Eq.symm
  ·intro h;apply q36_.L1_step;rw [if_neg (by omega)];exact h
  ·intro k a ha hk h;apply q36_.L1_step;rw [if_pos (by omega)];refine ⟨a,Abb ha,_,q45_.spec,?_⟩
   split
   ·rename_i h1;rw [if_pos h1] at h;refine ⟨by omega,by omega,_,q46_.spec (by rw [List.length_take];omega),?_⟩;rw [Int.toNat_natCast,Nat.sub_zero,Aa9 (by unfold Big at hn;omega)];have e:(0<=ixI (eqS a) (l.take k))↔(l.take k).any (eqS a)=true:=by rw [← Asu,decide_eq_true_iff]
    split
    ·rename_i h2;rw [if_pos (e.1 h2)] at h;exact h
    ·rename_i h2;rw [if_neg (fun hh=>h2 (e.2 hh))] at h;exact h
   ·rename_i h1;rw [if_neg h1] at h;exact h)
 rw [← h1];exact h2
def Aas (v:api_Value):Bool:=decide (v.Kind=0/\v.Num=0/\v.Str.toList=[]∨v.Kind=1/\v.Str.toList=[]∨v.Kind=2/\v.Num=0/\v.Str.toList.length<=200∨v.Kind=3/\1<=v.Num/\v.Str.toList=[])
theorem As5 {v : api_Value} {φ : Bool -> Prop} (h : φ (Aas v)) : (if v.Kind = 0 then (if v.Num = 0 then φ ((v.Str.toList == ((⟨#[]⟩ : ByteArray)).toList)) else φ false) else (if v.Kind = 1 then φ ((v.Str.toList == ((⟨#[]⟩ : ByteArray)).toList)) else (if v.Kind = 2 then (if v.Num = 0 then φ ((decide ((Ad8 v.Str) <= 200))) else φ false) else (if v.Kind = 3 then (if 1 <= v.Num then φ ((v.Str.toList == ((⟨#[]⟩ : ByteArray)).toList)) else φ false) else φ false)))) := by
  have e : ∀ b, b = Aas v -> φ b := by rintro _ rfl; exact h
  have e0 : (v.Str.toList == ((⟨#[]⟩ : ByteArray)).toList) = decide (v.Str.toList = []) := by
    rw [Avi];by_cases h : v.Str.toList = []
    · simp [h]
    · simp [h]
  rw [e0, Ac9]
  repeat' split
  all_goals apply e
  all_goals unfold Aas
  all_goals first
    | (rw [decide_eq_decide]; omega)
    | (symm; rw [decide_eq_false_iff_not]; omega)
    | (rw [decide_eq_decide]; constructor
       · intro h; simp_all
       · intro h; simp_all)
theorem q71_.spec {v:api_Value}:q71_.C v (Aas v):=by
 obtain ⟨r,h1,h2⟩:=q71_.enter v (fun r=>r=Aas v) (As5 (φ:=fun r=>r=Aas v) rfl);rw [← h1];exact h2
theorem q35_.spec {v:api_Value}:q35_.C v (Aas v):=by
 obtain ⟨r,h1,h2⟩:=q35_.enter v (fun r=>r=Aas v) (As5 (φ:=fun r=>r=Aas v) rfl);rw [← h1];exact h2
def Ade (l:List api_Value):Bool:=l.all Aas
theorem q25_.spec {v:api_Value}:q25_.C v (!Aas v):=by
 obtain ⟨r,h1,h2⟩:=q25_.enter v (fun r=>r=!Aas v) ⟨_,q71_.spec,rfl⟩;rw [← h1];exact h2
namespace q2_
theorem spec {l:List api_Value} (hn:l.length<Big):C l (ixI (fun v=>!Aas v) l):=by
 obtain ⟨r,h1,h2⟩:=enter l (fun r=>r=ixI (fun v=>!Aas v) l) (by
  refine Am6 (l:=l) (p:=fun v=>!Aas v) (L:=fun i=>L1 l i _) (φ:=fun r=>r=ixI (fun v=>!Aas v) l) ?_ ?_ rfl
  ·intro h;apply L1_step;rw [if_neg (by omega)];exact h
  ·intro k a ha hk h;apply L1_step;rw [if_pos (by omega)];refine ⟨a,Abb ha,_,q25_.spec,?_⟩;rw [Aa9 (by unfold Big at hn;omega)]
   exact h)
 rw [← h1];exact h2
end q2_
theorem q0_.spec {l:List api_Value} (hn:l.length<Big):q0_.C l (!Ade l):=by
 obtain ⟨r,h1,h2⟩:=q0_.enter l (fun r=>r=!Ade l) ⟨_,q2_.spec hn,by
  rw [Asu];unfold Ade;rw [List.any_eq_not_all_not];simp⟩
 rw [← h1];exact h2
theorem q29_.spec {l:List api_Value} (hn:l.length<Big):q29_.C l (Ade l):=by
 obtain ⟨r,h1,h2⟩:=q29_.enter l (fun r=>r=Ade l) ⟨_,q0_.spec hn,by
  show (!(!Ade l))=_
  rw [Bool.not_not]⟩
 rw [← h1];exact h2
theorem q30_.spec {l:List api_Value} (hn:l.length<Big):q30_.C l (Ade l):=by
 obtain ⟨r,h1,h2⟩:=q30_.enter l (fun r=>r=Ade l) (by
  refine Aj5 (l:=l) (p:=Aas) (L:=fun i=>q30_.L1 l i _) (φ:=fun r=>r=Ade l) ?_ ?_ rfl
  ·intro h;apply q30_.L1_step;rw [if_neg (by omega)];exact h
  ·intro k a ha hk h;apply q30_.L1_step;rw [if_pos (by omega)];refine ⟨a,Abb ha,_,q35_.spec,?_⟩;rw [Aa9 (by unfold Big at hn;omega)]
   exact h)
 rw [← h1];exact h2
def Adv (n:Nat):Int->List api_Row->Int
 | _,[]=>0
 | last,r::rs=>if r.ID<=last then 1 else if r.Values.length=n then (if Ade r.Values=true then Adv n r.ID rs else 1) else 6
def Aev (t:api_Table):Int:=if Afw t.Name=true then (if 16<t.Attrs.length then 3 else if 1000<t.Rows.length then 3 else if Ads t.Attrs=true then Adv t.Attrs.length 0 t.Rows else 1) else 1
theorem Aud {n : Nat} {l : List api_Row} {L : Int -> Int -> Prop} {φ : Int -> Prop} (stop : ∀ last, φ 0 -> L last (l.length : Int))
    (step : ∀ (k : Nat) r last, l[k]? = some r -> k < l.length -> (if r.ID <= last then φ 1 else if r.Values.length = n then (if Ade r.Values = true then L r.ID ((k + 1 : Nat) : Int) else φ 1) else φ 6) -> L last k) (h : φ (Adv n 0 l)) : L 0 0 := by
  have : ∀ (r : List api_Row) (k : Nat) (last : Int), l.drop k = r -> k <= l.length -> φ (Adv n last r) -> L last k := by
    intro r
    induction r with
    | nil => intro k last hd hk h; have : k = l.length := by have := Ach hd; omega
             subst this; exact stop _ h
    | cons a r ih =>
      intro k last hd hk h;have hlt := Aci hd;refine step k a last (Aba hd) hlt ?_;simp only [Adv] at h
      split
      · rename_i h1; rw [if_pos h1] at h; exact h
      · rename_i h1; rw [if_neg h1] at h
        split
        · rename_i h2; rw [if_pos h2] at h
          split
          · rename_i h3; rw [if_pos h3] at h; exact ih (k + 1) _ (Abq hd) hlt h
          · rename_i h3; rw [if_neg h3] at h; exact h
        · rename_i h2; rw [if_neg h2] at h; exact h
  exact this l 0 0 rfl (Nat.zero_le _) h
namespace q72_
theorem rows {t:api_Table} {φ:Int->Prop} (hr:t.Rows.length<=1000) (ha:t.Attrs.length<=16) (h:φ (Adv t.Attrs.length 0 t.Rows)):L2 t 0 0 φ:=by
 refine Aud (n:=t.Attrs.length) (l:=t.Rows) (L:=fun last i=>L2 t last i φ) (φ:=φ) ?_ ?_ h
 ·intro last h;apply L2_step;rw [if_neg (by omega)];exact h
 ·intro k r last hr hk h;apply L2_step;rw [if_pos (by omega)];refine ⟨r,Abb hr,?_⟩
  split
  ·rename_i h1;rw [if_pos h1] at h;exact h
  ·rename_i h1;rw [if_neg h1] at h
   split
   ·rename_i h2;have h2:r.Values.length=t.Attrs.length:=by omega
    rw [if_pos h2] at h;refine ⟨_,q29_.spec (by unfold Big;omega),?_⟩;rw [Aa9 (by omega)];exact h
   ·rename_i h2;rw [if_neg (by omega)] at h;exact h
theorem spec {t:api_Table}:C t (Aev t):=by
 obtain ⟨r,h1,h2⟩:=enter t (fun r=>r=Aev t) (by
  refine ⟨_,q67_.spec,?_⟩;unfold Aev
  split
  ·by_cases h1:16<t.Attrs.length
   ·rw [if_pos (by omega),if_pos h1]
   ·rw [if_neg (by omega),if_neg h1];by_cases h2:1000<t.Rows.length
    ·rw [if_pos (by omega),if_pos h2]
    ·rw [if_neg (by omega),if_neg h2];refine Arj (l:=t.Attrs) (L:=fun i=>L1 t i _) (P:=Adv t.Attrs.length 0 t.Rows=if Ads t.Attrs=true then Adv t.Attrs.length 0 t.Rows else 1) (Q:=(1:Int)=if Ads t.Attrs=true then Adv t.Attrs.length 0 t.Rows else 1) ?_ ?_ ?_ ?_
     ·intro h;apply L1_step;rw [if_neg (by omega)];exact rows (φ:=fun r=>r=if Ads t.Attrs=true then Adv t.Attrs.length 0 t.Rows else 1) (by omega) (by omega) h
     ·intro k a ha hk h;apply L1_step;rw [if_pos (by omega)];refine ⟨a,Abb ha,_,q67_.spec,?_⟩
      split
      ·rename_i h1;rw [if_pos h1] at h;refine ⟨by omega,by omega,_,q19_.spec (by rw [List.length_take];unfold Big;omega),?_⟩;rw [Int.toNat_natCast,Nat.sub_zero,Aa9 (by omega)];exact h
      ·rename_i h1;rw [if_neg h1] at h;exact h
     ·intro h;rw [if_pos h]
     ·intro h;rw [if_neg (by rw [h];decide)]
  ·rfl)
 rw [← h1];exact h2
end q72_
namespace q37_
theorem rows {t:api_Table} {φ:Int->Prop} (hr:t.Rows.length<=1000) (ha:t.Attrs.length<=16) (h:φ (Adv t.Attrs.length 0 t.Rows)):L1 t 0 0 φ:=by
 refine Aud (n:=t.Attrs.length) (l:=t.Rows) (L:=fun last i=>L1 t last i φ) (φ:=φ) ?_ ?_ h
 ·intro last h;apply L1_step;rw [if_neg (by omega)];exact h
 ·intro k r last hr hk h;apply L1_step;rw [if_pos (by omega)];refine ⟨r,Abb hr,?_⟩
  split
  ·rename_i h1;rw [if_pos h1] at h;exact h
  ·rename_i h1;rw [if_neg h1] at h
   split
   ·rename_i h2;have h2:r.Values.length=t.Attrs.length:=by omega
    rw [if_pos h2] at h;refine ⟨_,q30_.spec (by unfold Big;omega),?_⟩;rw [Aa9 (by omega)];exact h
   ·rename_i h2;rw [if_neg (by omega)] at h;exact h
theorem spec {t:api_Table}:C t (Aev t):=by
 obtain ⟨r,h1,h2⟩:=enter t (fun r=>r=Aev t) (by
  refine ⟨_,q45_.spec,?_⟩;unfold Aev
  split
  ·by_cases h1:16<t.Attrs.length
   ·rw [if_pos (by omega),if_pos h1]
   ·rw [if_neg (by omega),if_neg h1];by_cases h2:1000<t.Rows.length
    ·rw [if_pos (by omega),if_pos h2]
    ·rw [if_neg (by omega),if_neg h2];refine ⟨_,q36_.spec (by unfold Big;omega),?_⟩
     split
     ·exact rows (φ:=fun r=>r=Adv t.Attrs.length 0 t.Rows) (by omega) (by omega) rfl
     ·rfl
  ·rfl)
 rw [← h1];exact h2
end q37_
namespace q47_
theorem loop {φ:List Int->Prop}:∀ (n:Nat) (acc:List Int),n<2^32->acc.length+(Aar n).length<=1000->φ (acc++(Aar n).map fun (i:Nat)=>(i:Int))->L1 n acc φ:=by
 intro n
 induction n using Nat.strongRecOn with
 | _ n ih=>
  intro acc hn hl h;apply L1_step;by_cases h0:n=0
  ·subst h0;rw [Ax9] at h;rw [if_pos (by omega)];simpa using h
  ·rw [if_neg (by omega)];rw [Ax8 h0 hn] at hl h;simp only [List.length_cons] at hl;refine ⟨by omega,by omega,?_⟩;have e1:IntKind.wrap .u32 ((n:Int)-1)=((n-1:Nat):Int):=by
    have:(n:Int)-1=((n-1:Nat):Int):=by omega
    rw [this];exact Ae3 (k:=.u32) (by simp only [top];omega)
   rw [e1,Ady (k:=.u32) (by simpa [top] using hn) (by simp only [top];omega)];refine ih _ (Bcn h0) _ (Nat.lt_of_le_of_lt Nat.and_le_left hn) (by rw [List.length_append,List.length_singleton];omega) ?_;have e2:tz32 (n:Int)=((Ac6 n 32 0:Nat):Int):=by unfold tz32;rw [Int.toNat_natCast]
   rw [e2];simpa using h
theorem spec {n:Nat} (hn:n<2^32):C n ((Aar n).map fun (i:Nat)=>(i:Int)):=by
 obtain ⟨r,h1,h2⟩:=enter n (fun r=>r=(Aar n).map fun (i:Nat)=>(i:Int)) (loop n [] hn (by have:=Afr (n:=n);simp;omega) (by simp));rw [← h1];exact h2
end q47_
namespace q48_
theorem loop {k:Nat} {φ:Int->Prop} (h:φ (Acz k)):∀ (m i:Nat),i+m=min k 32->L1 k ((2^i-1:Nat):Int) i φ
 | 0,i,hi=>by
  apply L1_step;have e:((2^i-1:Nat):Int)=(Acz k:Int):=by unfold Acz;rw [← hi,Nat.add_zero]
  rw [e]
  split
  ·rw [if_neg (by omega)];exact h
  ·exact h
 | m+1,i,hi=>by
  apply L1_step;rw [if_pos (by omega),if_pos (by omega)];refine ⟨by omega,?_⟩;have hp:2^(i+1)<=2^32:=Nat.pow_le_pow_right (by decide) (by omega);have h2:0<2^i:=Nat.pos_of_ne_zero (by simp);rw [Nat.pow_succ] at hp;rw [Aq8 (k:=.u32) (by simp only [top];omega),Al1 (k:=.u32) (by simp only [top];omega) (by simp only [top];omega),Aa9 (by omega)];have e:(2^i-1) ||| 2^i=2^(i+1)-1:=by
   apply Nat.eq_of_testBit_eq;intro j;rw [Nat.testBit_or,Nat.testBit_two_pow_sub_one,Nat.testBit_two_pow,Nat.testBit_two_pow_sub_one];by_cases h1:j<i
   ·have:j<i+1:=by omega
    simp [h1,this]
   ·by_cases h3:i=j
    ·subst h3;simp
    ·have:¬ j<i+1:=by omega
     simp [h1,h3,this]
  rw [e];exact loop h m (i+1) (by omega)
theorem spec {k:Nat}:C k (Acz k):=by
 obtain ⟨r,h1,h2⟩:=enter k (fun r=>r=(Acz k:Int)) (loop (φ:=fun r=>r=(Acz k:Int)) rfl (min k 32) 0 (by omega));rw [← h1];exact h2
end q48_
namespace q58_
theorem spec {n i:Nat} (hn:n<2^32):C n i (n.testBit i):=by
 obtain ⟨r,h1,h2⟩:=enter n i (fun r=>r=n.testBit i) (by
  rw [if_pos (by omega)]
  split
  ·refine ⟨by omega,?_⟩;rw [Bee (k:=.u32) (by simpa [top] using hn) (by decide)];cases n.testBit i<;>rfl
  ·rw [Nat.testBit_lt_two_pow (Nat.lt_of_lt_of_le hn (Nat.pow_le_pow_right (by decide) (by omega)))])
 rw [← h1];exact h2
end q58_
end Go.Own

namespace Go.Own
theorem Ai5 {a b:Int}:cmpI a b=0↔a=b:=by
 unfold cmpI;repeat' split
 all_goals omega
theorem q49_.spec {a b:Int}:q49_.C a b (cmpI a b):=by
 obtain ⟨r,h1,h2⟩:=q49_.enter a b (fun r=>r=cmpI a b) (by
  unfold cmpI;repeat' split
  all_goals first | rfl | omega)
 rw [← h1];exact h2
def cmpL:List UInt8->List UInt8->Int
 | [],[]=>0
 | [],_::_=>-1
 | _::_,[]=>1
 | a::r,b::s=>if a=b then cmpL r s else cmpI (u8i a) (u8i b)
theorem Ath:∀ {a b:List UInt8},cmpL a b=0↔a=b
 | [],[]=>by simp [cmpL]
 | [],_::_=>by simp [cmpL]
 | _::_,[]=>by simp [cmpL]
 | a::r,b::s=>by
  simp only [cmpL]
  split
  ·rename_i h;subst h;rw [Ath];simp
  ·rename_i h;rw [Ai5,Alo];simp [h]
def cmpS (a b:ByteArray):Int:=cmpL a.toList b.toList
theorem Bcq:∀ {a b:List UInt8},(a=[]∨b=[])->cmpI a.length b.length=cmpL a b
 | [],[],_=>rfl
 | [],_::r,_=>by
  simp only [cmpL,cmpI,List.length_cons,List.length_nil];rw [if_pos (by omega)]
 | _::r,[],_=>by
  simp only [cmpL,cmpI,List.length_cons,List.length_nil];rw [if_neg (by omega),if_pos (by omega)]
 | _::_,_::_,h=>by simp at h
namespace q27_
theorem loop {a b:ByteArray} {φ:Int->Prop} (hn:a.toList.length<Big):∀ (r s:List UInt8) (k:Nat),a.toList.drop k=r->b.toList.drop k=s->k<=a.toList.length->k<=b.toList.length->φ (cmpL r s)->L1 a b k φ:=by
 have fin:∀ (r s:List UInt8) (k:Nat),a.toList.drop k=r->b.toList.drop k=s->k<=a.toList.length->k<=b.toList.length->(r=[]∨s=[])->φ (cmpL r s)->L2 a b φ:=by
  intro r s k hr hs hk hk2 h0 h;apply L2_step;refine ⟨_,q49_.spec,?_⟩;rw [Ac9,Ac9];have e:cmpI a.toList.length b.toList.length=cmpI r.length s.length:=by
   rw [← hr,← hs,List.length_drop,List.length_drop];unfold cmpI
   repeat' split
   all_goals omega
  rw [e,Bcq h0];exact h
 intro r
 induction r with
 | nil=>
  intro s k hr hs hk hk2 h;apply L1_step;have:=Ach hr;rw [Ac9,if_neg (by omega)];exact fin _ _ k hr hs hk hk2 (.inl rfl) h
 | cons x r ih=>
  intro s k hr hs hk hk2 h;apply L1_step;have hlt:=Aci hr;rw [Ac9,if_pos (by omega),Ac9]
  match s,hs,h with
  | [],hs,h=>
   have:=Ach hs;rw [if_neg (by omega)];exact fin _ _ k hr hs hk hk2 (.inr rfl) h
  | y::s,hs,h=>
   have hlt2:=Aci hs;rw [if_pos (by omega)];refine ⟨x,Ae5 (Aba hr),y,Ae5 (Aba hs),?_⟩;simp only [cmpL] at h
   split
   ·rename_i he;rw [if_pos (Alo.1 he)] at h;rw [Aa9 (by unfold Big at hn;omega)];exact ih s (k+1) (Abq hr) (Abq hs) hlt hlt2 h
   ·rename_i he;rw [if_neg (fun hh=>he (Alo.2 hh))] at h;refine ⟨x,Ae5 (Aba hr),y,Ae5 (Aba hs),_,q49_.spec,?_⟩;have b1:=Awy (b:=x);have b2:=Awy (b:=y);rw [Ack (by omega) (by omega),Ack (by omega) (by omega)];exact h
theorem spec {a b:ByteArray} (hn:a.toList.length<Big):C a b (cmpS a b):=by
 obtain ⟨r,h1,h2⟩:=enter a b (fun r=>r=cmpS a b) (loop hn a.toList b.toList 0 rfl rfl (by omega) (by omega) rfl);rw [← h1];exact h2
end q27_
def cmpV (v w:api_Value):Int:=if cmpI v.Kind w.Kind=0 then (if cmpI v.Num w.Num=0 then cmpS v.Str w.Str else cmpI v.Num w.Num) else cmpI v.Kind w.Kind
theorem Ati {v w:api_Value}:cmpV v w=0↔v=w:=by
 obtain ⟨k,n,s⟩:=v;obtain ⟨k',n',s'⟩:=w;unfold cmpV cmpS;simp only [api_Value.mk.injEq]
 split
 ·rename_i h1;rw [Ai5] at h1
  split
  ·rename_i h2;rw [Ai5] at h2;rw [Ath,Aj6];simp [h1,h2]
  ·rename_i h2;have h3:=h2;rw [Ai5] at h3;simp [h2,h3]
 ·rename_i h1;have h3:=h1;rw [Ai5] at h3;simp [h1,h3]
theorem q28_.spec {v w:api_Value} (hn:v.Str.toList.length<Big):q28_.C v w (cmpV v w):=by
 obtain ⟨r,h1,h2⟩:=q28_.enter v w (fun r=>r=cmpV v w) (by
  refine ⟨_,q49_.spec,?_⟩;unfold cmpV
  split
  ·refine ⟨_,q49_.spec,?_⟩
   split
   ·exact ⟨_,q27_.spec hn,rfl⟩
   ·rfl
  ·rfl)
 rw [← h1];exact h2
def Ayn (l:List api_Value):Prop:=l.length<Big/\∀ v∈l,v.Str.toList.length<Big
def Aem:List api_Value->List api_Value->Int
 | [],[]=>0
 | [],_::_=>-1
 | _::_,[]=>1
 | a::r,b::s=>if cmpV a b=0 then Aem r s else cmpV a b
theorem Aly:∀ {a b:List api_Value},Aem a b=0↔a=b
 | [],[]=>by simp [Aem]
 | [],_::_=>by simp [Aem]
 | _::_,[]=>by simp [Aem]
 | a::r,b::s=>by
  simp only [Aem]
  split
  ·rename_i h;rw [Aly];rw [Ati] at h;simp [h]
  ·rename_i h;have h2:=h;rw [Ati] at h2;simp [h,h2]
theorem Bap:∀ {a b:List api_Value},(a=[]∨b=[])->cmpI a.length b.length=Aem a b
 | [],[],_=>rfl
 | [],_::r,_=>by
  simp only [Aem,cmpI,List.length_cons,List.length_nil];rw [if_pos (by omega)]
 | _::r,[],_=>by
  simp only [Aem,cmpI,List.length_cons,List.length_nil];rw [if_neg (by omega),if_pos (by omega)]
 | _::_,_::_,h=>by simp at h
namespace q38_
theorem loop {a b:List api_Value} {φ:Int->Prop} (hn:Ayn a):∀ (r s:List api_Value) (k:Nat),a.drop k=r->b.drop k=s->k<=a.length->k<=b.length->φ (Aem r s)->L1 a b k φ:=by
 have fin:∀ (r s:List api_Value) (k:Nat),a.drop k=r->b.drop k=s->k<=a.length->k<=b.length->(r=[]∨s=[])->φ (Aem r s)->L2 a b φ:=by
  intro r s k hr hs hk hk2 h0 h;apply L2_step;refine ⟨_,q49_.spec,?_⟩;have e:cmpI a.length b.length=cmpI r.length s.length:=by
   rw [← hr,← hs,List.length_drop,List.length_drop];unfold cmpI
   repeat' split
   all_goals omega
  rw [e,Bap h0];exact h
 intro r
 induction r with
 | nil=>
  intro s k hr hs hk hk2 h;apply L1_step;have:=Ach hr;rw [if_neg (by omega)];exact fin _ _ k hr hs hk hk2 (.inl rfl) h
 | cons x r ih=>
  intro s k hr hs hk hk2 h;apply L1_step;have hlt:=Aci hr;rw [if_pos (by omega)]
  match s,hs,h with
  | [],hs,h=>
   have:=Ach hs;rw [if_neg (by omega)];exact fin _ _ k hr hs hk hk2 (.inr rfl) h
  | y::s,hs,h=>
   have hlt2:=Aci hs;rw [if_pos (by omega)];refine ⟨x,Afk hr,y,Afk hs,_,q28_.spec (hn.2 x (List.mem_of_getElem? (Aba hr))),?_⟩;simp only [Aem] at h
   split
   ·rename_i he;rw [if_pos he] at h;rw [Aa9 (by have:=hn.1;unfold Big at this;omega)];exact ih s (k+1) (Abq hr) (Abq hs) hlt hlt2 h
   ·rename_i he;rw [if_neg he] at h;exact h
theorem spec {a b:List api_Value} (hn:Ayn a):C a b (Aem a b):=by
 obtain ⟨r,h1,h2⟩:=enter a b (fun r=>r=Aem a b) (loop hn a b 0 rfl rfl (by omega) (by omega) rfl);rw [← h1];exact h2
end q38_
theorem q50_.spec {a b:List api_Value} (hn:Ayn a):q50_.C a b (decide (a=b)):=by
 obtain ⟨r,h1,h2⟩:=q50_.enter a b (fun r=>r=decide (a=b)) ⟨_,q38_.spec hn,by
  by_cases h:a=b
  ·simp [h,Aly.2 rfl]
  ·have:Aem a b≠0:=fun hh=>h (Aly.1 hh)
   simp [h,this]⟩
 rw [← h1];exact h2
def be:Nat->Nat->List Int
 | 0,_=>[]
 | j+1,u=>((u / 2^(8*j) % 256:Nat):Int)::be j u
theorem Aql:∀ {j u},(be j u).length=j
 | 0,_=>rfl
 | j+1,u=>by simp [be,Aql]
theorem Avg:∀ {j u},∀ x∈be j u,0<=x/\x<256
 | 0,_,_,h=>by simp [be] at h
 | j+1,u,x,h=>by
  simp only [be,List.mem_cons] at h;rcases h with rfl | h
  ·omega
  ·exact Avg x h
theorem Bag:∀ {j u v},be j u=be j v->u % 2^(8*j)=v % 2^(8*j)
 | 0,u,v,_=>by simp [Nat.mod_one]
 | j+1,u,v,h=>by
  simp only [be,List.cons.injEq] at h;have ih:=Bag h.2;have e:2^(8*(j+1))=2^(8*j)*256:=by rw [Nat.mul_add,Nat.pow_add]
  rw [e,Nat.mod_mul,Nat.mod_mul,ih];have:u / 2^(8*j) % 256=v / 2^(8*j) % 256:=by omega
  rw [this]
def Agy (n:Int):Nat:=(n % 18446744073709551616).toNat ^^^ 9223372036854775808
theorem Anh {n:Int}:Agy n<2^64:=Nat.xor_lt_two_pow (by omega) (by decide)
theorem Az4 {m n:Int} (hm : -9223372036854775808<=m/\m<9223372036854775808) (hn : -9223372036854775808<=n/\n<9223372036854775808) (h:Agy m=Agy n):m=n:=by
 unfold Agy at h;have h2:(m % 18446744073709551616).toNat=(n % 18446744073709551616).toNat:=by
  have:=congrArg (· ^^^ 9223372036854775808) h;simpa [Nat.xor_assoc] using this
 omega
namespace q68_
theorem loop {φ:List Int->Prop} {u:Nat} (hu:u<2^64):∀ (j:Nat) (acc:List Int),j<=8->acc.length+j<=1000->φ (acc++be j u)->L1 acc u (8*(j:Int)-8) φ
 | 0,acc,hj,hl,h=>by
  apply L1_step;rw [if_neg (by omega)];simpa [be] using h
 | j+1,acc,hj,hl,h=>by
  apply L1_step;rw [if_pos (by omega)];refine ⟨by omega,by omega,?_⟩;have e1:8*((j+1:Nat):Int)-8=((8*j:Nat):Int):=by omega
  rw [e1,Ae2 (k:=.u64) (by simpa [top] using hu),IntKind.wrap_u8,Ack (by omega) (by omega)];have e2:((8*j:Nat):Int)-8=8*(j:Int)-8:=by omega
  rw [e2];refine loop hu j _ (by omega) (by simp;omega) ?_;have e3:((u / 2^(8*j):Nat):Int) % 256=((u / 2^(8*j) % 256:Nat):Int):=by omega
  rw [e3];simpa [be] using h
theorem spec {n:Int} {acc:List Int} (hl:acc.length<=900):C n acc (acc++be 8 (Agy n)):=by
 obtain ⟨r,h1,h2⟩:=enter n acc (fun r=>r=acc++be 8 (Agy n)) (by
  have e:bXor .u64 (IntKind.wrap .u64 n) 9223372036854775808=(Agy n:Int):=by
   have e1:IntKind.wrap .u64 n=(((n % 18446744073709551616).toNat:Nat):Int):=by
    simp only [IntKind.wrap,IntKind.bits,IntKind.signed];simp;omega
   rw [e1];exact Bci (k:=.u64) (b:=9223372036854775808) (by simp only [top];omega) (by simp only [top];omega)
  rw [e]
  exact loop Anh 8 acc (by omega) (by omega) rfl)
 rw [← h1];exact h2
end q68_
def esc:List UInt8->List Int
 | []=>[]
 | b::r=>if u8i b=0 then 0::255::esc r else u8i b::esc r
theorem Bcv {l:List UInt8} {b:UInt8}:esc (l++[b])=esc l++esc [b]:=by
 induction l with
 | nil=>rfl
 | cons a l ih=>simp only [List.cons_append,esc,ih];split<;>rfl
theorem Ak8:∀ {l:List UInt8},∀ x∈esc l,0<=x/\x<256
 | [],x,h=>by simp [esc] at h
 | b::r,x,h=>by
  simp only [esc] at h
  split at h
  ·simp only [List.mem_cons] at h;rcases h with rfl | rfl | h
   ·omega
   ·omega
   ·exact Ak8 x h
  ·simp only [List.mem_cons] at h;rcases h with rfl | h
   ·exact Awy
   ·exact Ak8 x h
theorem Aok:∀ {l:List UInt8},(esc l).length<=2*l.length
 | []=>by simp [esc]
 | b::r=>by
  have:=Aok (l:=r);simp only [esc]
  split<;>simp only [List.length_cons]<;>omega
theorem Asm:∀ {a b:List UInt8} {r s:List Int},esc a++(0::1::r)=esc b++(0::1::s)->a=b/\r=s
 | [],[],r,s,h=>by simpa [esc] using h
 | [],y::b,r,s,h=>by
  simp only [esc] at h
  split at h
  ·simp at h
  ·rename_i hy;simp only [List.nil_append,List.cons_append,List.cons.injEq] at h;exact absurd h.1.symm hy
 | x::a,[],r,s,h=>by
  simp only [esc] at h
  split at h
  ·simp at h
  ·rename_i hx;simp only [List.nil_append,List.cons_append,List.cons.injEq] at h;exact absurd h.1 hx
 | x::a,y::b,r,s,h=>by
  simp only [esc] at h
  split at h
  ·rename_i hx
   split at h
   ·rename_i hy;simp only [List.cons_append,List.cons.injEq,true_and] at h;obtain ⟨h1,h2⟩:=Asm h;exact ⟨by rw [h1,Alo.1 (hx.trans hy.symm)],h2⟩
   ·rename_i hy;simp only [List.cons_append,List.cons.injEq] at h;exact absurd h.1.symm hy
  ·rename_i hx
   split at h
   ·rename_i hy;simp only [List.cons_append,List.cons.injEq] at h;exact absurd h.1 hx
   ·rename_i hy;simp only [List.cons_append,List.cons.injEq] at h;obtain ⟨h1,h2⟩:=Asm h.2;exact ⟨by rw [h1,Alo.1 h.1],h2⟩
def keyJ (v:api_Value):List Int:=v.Kind::(if v.Kind=1∨v.Kind=3 then be 8 (Agy v.Num) else if v.Kind=2 then esc v.Str.toList++[0,1] else [])
def Ahu (v:api_Value):Prop:=-9223372036854775808<=v.Num/\v.Num<9223372036854775808
theorem Aee {v:api_Value} (h:Aas v=true):v.Kind=0/\v.Num=0/\v.Str.toList=[]∨v.Kind=1/\v.Str.toList=[]∨v.Kind=2/\v.Num=0/\v.Str.toList.length<=200∨v.Kind=3/\1<=v.Num/\v.Str.toList=[]:=by
 simpa [Aas] using h
theorem Ar8 {v:api_Value} (h:Aas v=true):∀ x∈keyJ v,0<=x/\x<256:=by
 intro x hx;have hk:0<=v.Kind/\v.Kind<=3:=by rcases Aee h with h | h | h | h<;>omega
 simp only [keyJ,List.mem_cons] at hx;rcases hx with rfl | hx
 ·omega
 ·split at hx
  ·exact Avg x hx
  ·split at hx
   ·rcases List.mem_append.1 hx with hx | hx
    ·exact Ak8 x hx
    ·simp at hx;rcases hx with rfl | rfl<;>omega
   ·simp at hx
theorem Aw8 {v:api_Value} (h:Aas v=true):(keyJ v).length<=403:=by
 simp only [keyJ,List.length_cons]
 split
 ·rw [Aql];omega
 ·split
  ·have:=Aok (l:=v.Str.toList);have:v.Str.toList.length<=200:=by
    rcases Aee h with h | h | h | h
    ·rw [h.2.2];simp
    ·rw [h.2];simp
    ·exact h.2.2
    ·rw [h.2.2];simp
   simp;omega
  ·simp
theorem Bd6 {v w:api_Value} {r s:List Int} (hv:Aas v=true) (hw:Aas w=true) (nv:Ahu v) (nw:Ahu w) (h:keyJ v++r=keyJ w++s):v=w/\r=s:=by
 obtain ⟨k,n,t⟩:=v;obtain ⟨k',n',t'⟩:=w;simp only [keyJ,List.cons_append,List.cons.injEq] at h;obtain ⟨rfl,h⟩:=h;have hv:=Aee hv;have hw:=Aee hw;simp only at hv hw;simp only [api_Value.mk.injEq,true_and];by_cases h1:k=1∨k=3
 ·rw [if_pos h1,if_pos h1] at h;have h3:=List.append_inj h (by rw [Aql,Aql]);have h2:=Bag h3.1;rw [Nat.mod_eq_of_lt Anh,Nat.mod_eq_of_lt Anh] at h2;have e:=Az4 nv nw h2;simp only at e;refine ⟨⟨e,?_⟩,h3.2⟩;rw [← Aj6];have a1:t.toList=[]:=by rcases hv with h | h | h | h<;>first | exact h.2.2 | exact h.2 | omega
  have a2:t'.toList=[]:=by rcases hw with h | h | h | h<;>first | exact h.2.2 | exact h.2 | omega
  rw [a1,a2]
 ·rw [if_neg h1,if_neg h1] at h;by_cases h2:k=2
  ·rw [if_pos h2,if_pos h2,List.append_assoc,List.append_assoc] at h;obtain ⟨e1,e2⟩:=Asm h;rw [Aj6] at e1;exact ⟨⟨by omega,e1⟩,e2⟩
  ·rw [if_neg h2,if_neg h2] at h;have a1:t.toList=[]:=by rcases hv with h | h | h | h<;>first | exact h.2.2 | exact h.2 | omega
   have a2:t'.toList=[]:=by rcases hw with h | h | h | h<;>first | exact h.2.2 | exact h.2 | omega
   exact ⟨⟨by omega,by rw [← Aj6,a1,a2]⟩,by simpa using h⟩
def keyW (v:api_Value):ByteArray:=Ak4 (keyJ v)
namespace q78_
theorem loop {v:api_Value} {φ:ByteArray×Int->Prop} (hk:v.Kind=2) (hs:v.Str.toList.length<=200) (h:φ (keyW v,0)):∀ (r:List UInt8) (k:Nat),v.Str.toList.drop k=r->k<=v.Str.toList.length->L1 v (2::esc (v.Str.toList.take k)) k φ:=by
 intro r
 induction r with
 | nil=>
  intro k hd hk2;apply L1_step;have:=Ach hd;rw [Ac9,if_neg (by omega),List.take_of_length_le this];have hl:=Aok (l:=v.Str.toList);have e:keyJ v=(2::esc v.Str.toList)++[0,1]:=by simp [keyJ,hk]
  refine ⟨by simp only [List.length_cons];omega,fun x hx=>?_,?_⟩
  ·rcases List.mem_append.1 hx with hx | hx
   ·rcases List.mem_cons.1 hx with rfl | hx
    ·omega
    ·exact Ak8 x hx
   ·simp at hx;rcases hx with rfl | rfl<;>omega
  ·rw [← e];exact h
 | cons b r ih=>
  intro k hd hk2;have hlt:=Aci hd;apply L1_step;rw [Ac9,if_pos (by omega)];have hl:=Aok (l:=v.Str.toList.take k);rw [List.length_take] at hl;refine ⟨b,Ae5 (Aba hd),by simp only [List.length_cons];omega,b,Ae5 (Aba hd),?_⟩;have ih:=ih (k+1) (Abq hd) hlt;have e:v.Str.toList.take (k+1)=v.Str.toList.take k++[b]:=by rw [List.take_add_one,Aba hd];rfl
  rw [e,Bcv] at ih;have next:∀ l,l=2::(esc (v.Str.toList.take k)++esc [b])->L4 v l k φ:=by
   rintro _ rfl;apply L4_step;rw [Aa9 (by omega)];exact ih
  split
  ·rename_i h0;refine ⟨by simp only [List.length_append,List.length_cons,List.length_nil];omega,next _ ?_⟩;simp [esc,h0]
  ·rename_i h0;exact next _ (by simp [esc,h0])
theorem spec {v:api_Value} (hv:Aas v=true):C v (keyW v,0):=by
 obtain ⟨r,h1,h2⟩:=enter v (fun r=>r=(keyW v,0)) (by
  refine ⟨_,q71_.spec,?_⟩;rw [if_pos hv];have hc:=Aee hv;have hk:0<=v.Kind/\v.Kind<=3:=by rcases hc with h | h | h | h<;>omega
  have ek:IntKind.wrap .u8 v.Kind=v.Kind:=by rw [IntKind.wrap_u8];omega
  have two:∀ b,(v.Kind=1∨v.Kind=3)->L2 v b fun r=>r=(keyW v,0):=by
   intro b hb;apply L2_step;rw [ek];have e:keyJ v=[v.Kind]++be 8 (Agy v.Num):=by simp [keyJ,hb]
   refine ⟨_,q68_.spec (by simp),?_,?_⟩
   ·rw [← e];exact Ar8 hv
   ·rw [← e];rfl
  have three:¬ (v.Kind=1∨v.Kind=3)->L3 v fun r=>r=(keyW v,0):=by
   intro hb;apply L3_step;rw [ek]
   split
   ·rename_i h2;have hs:v.Str.toList.length<=200:=by
     rcases hc with h | h | h | h
     ·omega
     ·omega
     ·exact h.2.2
     ·omega
    have:=loop (φ:=fun r=>r=(keyW v,0)) h2 hs rfl v.Str.toList 0 rfl (by omega);rw [h2];simpa [esc] using this
   ·rename_i h2;refine ⟨fun x hx=>by simp at hx;omega,?_⟩;simp [keyW,keyJ,hb,h2]
  split
  ·rename_i h1;exact two _ (.inl h1)
  ·rename_i h1
   split
   ·rename_i h3;exact two _ (.inr h3)
   ·rename_i h3;exact three (by omega))
 rw [← h1];exact h2
end q78_
def b8 (x:Int):UInt8:=UInt8.ofNat x.toNat
theorem Bfz {x y:Int} (hx:0<=x/\x<256) (hy:0<=y/\y<256) (h:b8 x=b8 y):x=y:=by
 unfold b8 at h;have:=congrArg UInt8.toNat h;simp at this;omega
theorem Ari:∀ {l m:List Int},(∀ x∈l,0<=x/\x<256)->(∀ x∈m,0<=x/\x<256)->l.map b8=m.map b8->l=m
 | [],[],_,_,_=>rfl
 | [],_::_,_,_,h=>by simp at h
 | _::_,[],_,_,h=>by simp at h
 | x::l,y::m,h1,h2,h=>by
  simp only [List.map_cons,List.cons.injEq] at h;rw [Bfz (h1 x (by simp)) (h2 y (by simp)) h.1,Ari (fun z hz=>h1 z (by simp [hz])) (fun z hz=>h2 z (by simp [hz])) h.2]
theorem Bba {v:api_Value}:(keyW v).data.toList=(keyJ v).map b8:=by
 unfold keyW Ak4 b8;simp
theorem Bbb {v:api_Value}:(keyW v).size=(keyJ v).length:=by
 have:(keyW v).size=(keyW v).data.toList.length:=rfl;rw [this,Bba,List.length_map]
def Af4 (l:List api_Value):List Int:=l.flatMap keyJ
theorem Ap9 {l:List api_Value} (h:∀ v∈l,Aas v=true):∀ x∈Af4 l,0<=x/\x<256:=by
 intro x hx;obtain ⟨v,hv,hx⟩:=List.mem_flatMap.1 hx;exact Ar8 (h v hv) x hx
theorem Atz:∀ {l m:List api_Value},l.length=m.length->(∀ v∈l,Aas v=true/\Ahu v)->(∀ v∈m,Aas v=true/\Ahu v)->Af4 l=Af4 m->l=m
 | [],[],_,_,_,_=>rfl
 | [],_::_,h,_,_,_=>by simp at h
 | _::_,[],h,_,_,_=>by simp at h
 | v::l,w::m,hl,h1,h2,h=>by
  simp only [Af4,List.flatMap_cons] at h;have a:=h1 v (by simp);have b:=h2 w (by simp);obtain ⟨e1,e2⟩:=Bd6 a.1 b.1 a.2 b.2 h;rw [e1,Atz (by simpa using hl) (fun z hz=>h1 z (by simp [hz])) (fun z hz=>h2 z (by simp [hz])) e2]
def Abw (l:List api_Value):ByteArray:=bstr ((Af4 l).map b8)
theorem Au0 {l m:List api_Value} (hl:l.length=m.length) (h1:∀ v∈l,Aas v=true/\Ahu v) (h2:∀ v∈m,Aas v=true/\Ahu v):Abw l=Abw m↔l=m:=by
 constructor
 ·intro h;have h3:(Af4 l).map b8=(Af4 m).map b8:=by
   have:=congrArg ByteArray.toList h;unfold Abw at this
   rwa [Asi,Asi] at this
  exact Atz hl h1 h2 (Ari (Ap9 fun v hv=>(h1 v hv).1) (Ap9 fun v hv=>(h2 v hv).1) h3)
 ·rintro rfl;rfl
def pick (l:List api_Value) (n:Nat):List api_Value:=(Aar n).filterMap fun i=>l[i]?
theorem Avx {α β:Type} {f g:α->Option β}:∀ {l:List α},(∀ a∈l,f a=g a)->l.filterMap f=l.filterMap g
 | [],_=>rfl
 | a::l,h=>by
  have ih:=Avx (l:=l) fun b hb=>h b (by simp [hb]);simp only [List.filterMap_cons,h a (by simp),ih]
theorem Bah {n k:Nat} (hn:n<2^32):(Aar n).filter (fun i=>decide (i<k+1))=(Aar n).filter (fun i=>decide (i<k))++if n.testBit k=true then [k] else []:=by
 refine As1 (Aes.filter _) ?_ fun x=>?_
 ·rw [List.pairwise_append];refine ⟨Aes.filter _,by split<;>simp,fun a ha b hb=>?_⟩;have ha:=(List.mem_filter.1 ha).2
  split at hb
  ·simp at hb ha;omega
  ·simp at hb
 ·simp only [List.mem_filter,List.mem_append,decide_eq_true_eq]
  split
  ·rename_i h;rw [List.mem_singleton];constructor
   ·rintro ⟨h1,h2⟩;by_cases hx:x<k
    ·exact .inl ⟨h1,hx⟩
    ·exact .inr (by omega)
   ·rintro (⟨h1,h2⟩ | rfl)
    ·exact ⟨h1,by omega⟩
    ·exact ⟨(Abi hn).2 h,by omega⟩
  ·rename_i h;constructor
   ·rintro ⟨h1,h2⟩;have:x≠k:=fun e=>h (e ▸ (Abi hn).1 h1);exact .inl ⟨h1,by omega⟩
   ·rintro (⟨h1,h2⟩ | h1)
    ·exact ⟨h1,by omega⟩
    ·simp at h1
namespace q32_
theorem spec {r:api_Row} {n:Nat} (hn:n<2^32) (hr:r.Values.length<=1000):C r n (pick r.Values n):=by
 obtain ⟨q,h1,h2⟩:=enter r n (fun q=>q=pick r.Values n) (by
  have loop:∀ k,k<=r.Values.length->L1 r n (((Aar n).filter fun i=>decide (i<k)).filterMap fun i=>r.Values[i]?) k fun q=>q=pick r.Values n:=by
   refine down ?_ ?_
   ·apply L1_step;rw [if_neg (by omega)];unfold pick;rw [List.filterMap_filter];refine Avx fun i hi=>?_;by_cases h:i<r.Values.length
    ·simp [h]
    ·simp [h]
   ·intro k hk h;apply L1_step;rw [if_pos (by omega)];have hget:=List.getElem?_eq_getElem hk;have hlen:(((Aar n).filter fun i=>decide (i<k)).filterMap fun i=>r.Values[i]?).length<=32:=
     Nat.le_trans (List.length_filterMap_le _ _) (Nat.le_trans (List.length_filter_le _ _) Afr)
    rw [Bah hn,List.filterMap_append] at h;refine ⟨_,q58_.spec hn,?_⟩;have next:∀ l,l=(((Aar n).filter fun i=>decide (i<k)).filterMap fun i=>r.Values[i]?)++((if n.testBit k=true then [k] else []).filterMap fun i=>r.Values[i]?)->L2 r n l k fun q=>q=pick r.Values n:=by
     rintro _ rfl;apply L2_step;rw [Aa9 (by omega)];exact h
    split
    ·rename_i hb;exact ⟨r.Values[k],Abb hget,by omega,next _ (by simp [hb,hget])⟩
    ·rename_i hb;exact next _ (by simp [hb])
  have:=loop 0 (Nat.zero_le _);have e:(Aar n).filter (fun i=>decide (i<0))=[]:=by rw [List.filter_eq_nil_iff];simp
  rw [e] at this
  exact this)
 rw [← h1];exact h2
end q32_
def Aer (a b:List api_Value) (n:Nat):Bool:=decide (pick a n=pick b n)
theorem Be1 {a b:List api_Value} (hl:a.length=b.length):∀ {l:List Nat},(l.filterMap fun i=>a[i]?)=(l.filterMap fun i=>b[i]?)↔∀ i∈l,a[i]? = b[i]?
 | []=>by simp
 | k::l=>by
  have ih:=Be1 (a:=a) (b:=b) hl (l:=l);by_cases h:k<a.length
  ·have e1:=List.getElem?_eq_getElem h;have e2:=List.getElem?_eq_getElem (l:=b) (i:=k) (by omega);simp only [List.filterMap_cons,e1,e2,List.cons.injEq,ih,List.forall_mem_cons,zJ]
  ·have e1:a[k]? = none:=List.getElem?_eq_none (by omega);have e2:b[k]? = none:=List.getElem?_eq_none (by omega);simp only [List.filterMap_cons,e1,e2,ih,List.forall_mem_cons,true_and]
theorem Bac {a b:List api_Value} {n:Nat} (hn:n<2^32) (hl:a.length=b.length):Aer a b n=true↔∀ i,n.testBit i=true->a[i]? = b[i]?:=by
 unfold Aer pick;rw [decide_eq_true_iff,Be1 hl];constructor
 ·exact fun h i hi=>h i ((Abi hn).2 hi)
 ·exact fun h i hi=>h i ((Abi hn).1 hi)
theorem Ame {l:List api_Value} {n:Nat}:∀ v∈pick l n,v∈l:=by
 intro v hv;obtain ⟨i,_,hi⟩:=List.mem_filterMap.1 hv;exact List.mem_of_getElem? hi
theorem Awo {l:List api_Value} {n:Nat}:(pick l n).length<=32:=Nat.le_trans (List.length_filterMap_le _ _) Afr
theorem q39_.spec {a b:api_Row} {n:Nat} (hn:n<2^32) (ha:a.Values.length<=1000) (hb:b.Values.length<=1000) (hs:∀ v∈a.Values,v.Str.toList.length<Big):q39_.C a b n (Aer a.Values b.Values n):=by
 obtain ⟨q,h1,h2⟩:=q39_.enter a b n (fun q=>q=Aer a.Values b.Values n)
  ⟨_,q32_.spec hn ha,_,q32_.spec hn hb,_,q50_.spec ⟨by have:=Awo (l:=a.Values) (n:=n);unfold Big;omega,fun v hv=>hs v (Ame v hv)⟩,rfl⟩
 rw [← h1];exact h2
structure TV (t:api_Table):Prop where
 name:Afw t.Name=true
 na:t.Attrs.length<=16
 nr:t.Rows.length<=1000
 names:Ads t.Attrs=true
 rows:Adv t.Attrs.length 0 t.Rows=0
theorem Ami {t:api_Table}:Aev t=0↔TV t:=by
 unfold Aev;constructor
 ·intro h
  split at h
  ·split at h
   ·cases h
   ·split at h
    ·cases h
    ·split at h
     ·rename_i h1 h2 h3 h4;exact ⟨h1,by omega,by omega,h4,h⟩
     ·cases h
  ·cases h
 ·intro h;rw [if_pos h.name,if_neg (by have:=h.na;omega),if_neg (by have:=h.nr;omega),if_pos h.names];exact h.rows
theorem Ao1 {n:Nat}:∀ {l:List api_Row} {last:Int},Adv n last l=0->∀ r∈l,r.Values.length=n/\(∀ v∈r.Values,Aas v=true)/\last<r.ID
 | [],_,_,r,hr=>by cases hr
 | a::l,last,h,r,hr=>by
  simp only [Adv] at h
  split at h
  ·cases h
  ·split at h
   ·split at h
    ·rename_i h1 h2 h3;unfold Ade at h3;rw [List.all_eq_true] at h3;rcases List.mem_cons.1 hr with rfl | hr
     ·exact ⟨h2,h3,by omega⟩
     ·obtain ⟨e1,e2,e3⟩:=Ao1 h r hr;exact ⟨e1,e2,by omega⟩
    ·cases h
   ·cases h
theorem TV.len {t:api_Table} (h:TV t) {r:api_Row} (hr:r∈t.Rows):r.Values.length=t.Attrs.length:=(Ao1 h.rows r hr).1
theorem TV.val {t:api_Table} (h:TV t) {r:api_Row} (hr:r∈t.Rows):∀ v∈r.Values,Aas v=true:=(Ao1 h.rows r hr).2.1
theorem Auh {v:api_Value} (h:Aas v=true):v.Str.toList.length<=200:=by
 rcases Aee h with h | h | h | h
 ·rw [h.2.2];simp
 ·rw [h.2];simp
 ·exact h.2.2
 ·rw [h.2.2];simp
def TNum (t:api_Table):Prop:=∀ r∈t.Rows,∀ v∈r.Values,Ahu v
def Afy (t:api_Table) (n:Nat):List (List api_Value):=t.Rows.map fun r=>pick r.Values n
theorem Bdm {t:api_Table} (ht:TV t) {n i j:Nat} (hn:n<2^32) (hi:i<t.Rows.length) (hj:j<t.Rows.length):(Afy t n)[i]? = (Afy t n)[j]?↔∀ k,n.testBit k=true->(t.Rows[i]'hi).Values[k]? = (t.Rows[j]'hj).Values[k]?:=by
 unfold Afy;rw [List.getElem?_map,List.getElem?_map,List.getElem?_eq_getElem hi,List.getElem?_eq_getElem hj];simp only [Option.map_some,zJ];rw [← Bac hn (by rw [ht.len (List.getElem_mem hi),ht.len (List.getElem_mem hj)])];unfold Aer;rw [decide_eq_true_iff]
def OkP (t:api_Table) (l r i k:Nat):Prop:=(Afy t l)[i]? = (Afy t l)[k]?->(Afy t r)[i]? = (Afy t r)[k]?
def SatP (t:api_Table) (l r:Nat):Prop:=∀ i k,i<t.Rows.length->k<i->OkP t l r i k
theorem SatP.all {t:api_Table} {l r:Nat} (h:SatP t l r) {i k:Nat} (hi:i<t.Rows.length) (hk:k<t.Rows.length):OkP t l r i k:=by
 rcases Nat.lt_trichotomy i k with h1 | h1 | h1
 ·exact fun e=>(h k i hk h1 e.symm).symm
 ·subst h1;exact fun _=>rfl
 ·exact h i k hi h1
theorem agr {t:api_Table} {n i k:Nat} (hi:i<t.Rows.length) (hk:k<t.Rows.length):Aer (t.Rows[i]).Values (t.Rows[k]).Values n=true↔(Afy t n)[i]? = (Afy t n)[k]?:=by
 unfold Afy Aer;rw [List.getElem?_map,List.getElem?_map,List.getElem?_eq_getElem hi,List.getElem?_eq_getElem hk];simp
def EqA (t:api_Table) (i k a:Nat):Prop:=(t.Rows[i]?.map fun r=>r.Values[a]?)=(t.Rows[k]?.map fun r=>r.Values[a]?)
instance (t:api_Table) (i k a:Nat):Decidable (EqA t i k a):=by unfold EqA;infer_instance
theorem Aho {t:api_Table} (ht:TV t) {n i j:Nat} (hn:n<2^32) (hi:i<t.Rows.length) (hj:j<t.Rows.length):(Afy t n)[i]? = (Afy t n)[j]?↔∀ k,n.testBit k=true->EqA t i j k:=by
 rw [Bdm ht hn hi hj];unfold EqA;rw [List.getElem?_eq_getElem hi,List.getElem?_eq_getElem hj];simp only [Option.map_some,zJ]
theorem q59_.spec {a b:Nat} (ha:a<2^32) (hb:b<2^32):q59_.C a b (decide (a &&& b=a)):=by
 obtain ⟨r,h1,h2⟩:=q59_.enter a b (fun r=>r=decide (a &&& b=a)) (by
  rw [Ady (k:=.u32) (by simpa [top] using ha) (by simpa [top] using hb)];by_cases h:a &&& b=a
  ·simp [h]
  ·have:¬ ((a &&& b:Nat):Int)=(a:Int):=by omega
   simp [h,this])
 rw [← h1];exact h2
def FdOK (l:List api_FD):Prop:=∀ d∈l,U32 d.Lhs/\U32 d.Rhs
def inU (n:Nat) (l r:Int):Bool:=decide (sN l<2^n)&&decide (sN r<2^n)
theorem Az9 {n:Nat} {l r:Int} (hl:U32 l) (hr:U32 r):(shrw .u32 (bOr .u32 l r) (n:Int)=0)↔inU n l r=true:=by
 rw [hl.eq,hr.eq,Al1 hl.top hr.top,Ae2 (Nat.or_lt_two_pow hl.top hr.top)];unfold inU;rw [Bool.and_eq_true,decide_eq_true_iff,decide_eq_true_iff];have e1:sN (sN l:Int)=sN l:=by unfold sN;omega
 have e2:sN (sN r:Int)=sN r:=by unfold sN;omega
 rw [e1,e2,← Be5,← Bcs];omega
theorem Bdt {a n:Nat} (ha:a<2^32) (hn:n<=32):(a &&& Acz n=a)↔a<2^n:=by
 rw [Bfr,Adr];constructor
 ·intro h i hi;have:=h i hi;rw [Akc,decide_eq_true_iff] at this;omega
 ·intro h i hi;rw [Akc,decide_eq_true_iff];have:=h i hi;omega
theorem Bi9 {n:Nat} {x:Int} (hn:n<=32) (hx:U32 x):q59_.C x (Acz n) (decide (sN x<2^n)):=by
 have:=q59_.spec (a:=sN x) (b:=Acz n) hx.lt Aw0;rw [← hx.eq] at this;have e:decide (sN x &&& Acz n=sN x)=decide (sN x<2^n):=by rw [decide_eq_decide];exact Bdt hx.lt hn
 rw [e] at this;exact this
def fdsE (n:Int) (l:List api_FD):Int:=if n<0∨16<n then 7 else if 64<l.length then 3 else if (l.all fun d=>inU n.toNat d.Lhs d.Rhs)=true then 0 else 1
theorem Avb {α:Type} {l:List α} {p:α->Bool} {L:Int->Prop} {φ:Int->Prop} (stop:φ 0->L (l.length:Int))
  (step:∀ (k:Nat) a,l[k]? = some a->k<l.length->(if p a=true then L ((k+1:Nat):Int) else φ 1)->L k) (h:φ (if l.all p=true then 0 else 1)):L 0:=
 Aj5 (l:=l) (p:=p) (L:=L) (φ:=fun b=>φ (if b=true then 0 else 1)) (fun h=>stop (by simpa using h)) (fun k a ha hk h=>step k a ha hk (by simpa using h)) h
theorem q60_.spec {n:Int} {l:List api_FD} (hl:FdOK l):q60_.C n l (fdsE n l):=by
 obtain ⟨r,h1,h2⟩:=q60_.enter n l (fun r=>r=fdsE n l) (by
  by_cases a:n<0∨16<n
  ·have e:fdsE n l=7:=if_pos a;rw [e];by_cases b:n<0
   ·rw [if_pos b]
   ·rw [if_neg b,if_pos (by omega)]
  ·rw [if_neg (by omega),if_neg (by omega)];by_cases b:64<l.length
   ·have e:fdsE n l=3:=by unfold fdsE;rw [if_neg a,if_pos b]
    rw [e,if_pos (by omega)]
   ·have e:fdsE n l=if (l.all fun d=>inU n.toNat d.Lhs d.Rhs)=true then 0 else 1:=by unfold fdsE;rw [if_neg a,if_neg b]
    rw [e,if_neg (by omega)]
    ·obtain ⟨m,rfl⟩:∃ m:Nat,n=m:=⟨n.toNat,by omega⟩
     refine Avb (l:=l) (p:=fun d=>inU m d.Lhs d.Rhs) (L:=fun i=>q60_.L1 m l i _) (φ:=fun r=>r=_) ?_ ?_ rfl
     ·intro h;apply q60_.L1_step;rw [if_neg (by omega)];exact h
     ·intro k d hd hk h;apply q60_.L1_step;rw [if_pos (by omega)];refine ⟨d,Abb hd,by omega,?_⟩;have hd':=hl d (List.mem_of_getElem? hd);have e:=Az9 (n:=m) hd'.1 hd'.2;rw [Aa9 (by omega)]
      split
      ·rename_i hh;rw [if_pos (e.1 hh)] at h;exact h
      ·rename_i hh;rw [if_neg (fun h3=>hh (e.2 h3))] at h;exact h)
 rw [← h1];exact h2
theorem Bax {n:Int} {l:List api_FD} (h:fdsE n l=0):0<=n/\n<=16:=by
 unfold fdsE at h
 split at h
 ·cases h
 ·omega
def Agf (l:List api_MVD):Prop:=∀ d∈l,U32 d.Lhs/\U32 d.Rhs
def basE (n:Int) (l:List api_FD) (m:List api_MVD):Int:=if fdsE n l=0 then (if 64<m.length then 3 else if (m.all fun d=>inU n.toNat d.Lhs d.Rhs)=true then 0 else 1) else fdsE n l
theorem q73_.spec {n:Int} {l:List api_FD} {m:List api_MVD} (hl:FdOK l) (hm:Agf m):q73_.C n l m (basE n l m):=by
 obtain ⟨r,h1,h2⟩:=q73_.enter n l m (fun r=>r=basE n l m) (by
  refine ⟨_,q60_.spec hl,?_⟩;unfold basE
  split
  ·rename_i h0;have hn:=Bax h0
   split
   ·rw [if_pos (by omega)]
   ·rw [if_neg (by omega)];obtain ⟨q,rfl⟩:∃ q:Nat,n=q:=⟨n.toNat,by omega⟩
    refine Avb (l:=m) (p:=fun d=>inU q d.Lhs d.Rhs) (L:=fun i=>q73_.L1 q m i _) (φ:=fun r=>r=_) ?_ ?_ rfl
    ·intro h;apply q73_.L1_step;rw [if_neg (by omega)];exact h
    ·intro k d hd hk h;apply q73_.L1_step;rw [if_pos (by omega)];refine ⟨d,Abb hd,by omega,?_⟩;have hd':=hm d (List.mem_of_getElem? hd);have e:=Az9 (n:=q) hd'.1 hd'.2;rw [Aa9 (by omega)]
     split
     ·rename_i hh;rw [if_pos (e.1 hh)] at h;exact h
     ·rename_i hh;rw [if_neg (fun h3=>hh (e.2 h3))] at h;exact h
  ·rfl)
 rw [← h1];exact h2
theorem q33_.spec {n:Nat} {x:Int} (hn:n<=32) (hx:U32 x):q33_.C n x (decide (sN x<2^n)):=by
 obtain ⟨r,h1,h2⟩:=q33_.enter n x (fun r=>r=decide (sN x<2^n)) ⟨_,q48_.spec,_,Bi9 hn hx,rfl⟩;rw [← h1];exact h2
theorem Aiz {t:api_Table} (ht:TV t) {n i k:Nat} (hn:n<2^32) (hi:i<t.Rows.length) (hk:k<t.Rows.length):Aer (t.Rows[i]).Values (t.Rows[k]).Values n=true↔∀ a,n.testBit a=true->EqA t i k a:=(agr hi hk).trans (Aho ht hn hi hk)
def MixP (t:api_Table) (left i k:Nat):Prop:=∃ j,j<t.Rows.length/\(∀ a,left.testBit a=true->EqA t j i a)/\∀ a,a<t.Attrs.length->left.testBit a=false->EqA t j k a
def MvP (t:api_Table) (l r:Nat):Prop:=∀ i k,i<t.Rows.length->k<t.Rows.length->(∀ a,l.testBit a=true->EqA t i k a)->MixP t (l ||| r) i k
theorem Ao0 {t:api_Table} (ht:TV t) {n i k:Nat} (hn:n<2^32) (hi:i<t.Rows.length) (hk:k<t.Rows.length):q39_.C (t.Rows[i]) (t.Rows[k]) n (Aer (t.Rows[i]).Values (t.Rows[k]).Values n):=by
 have mi:=List.getElem_mem hi;have mk:=List.getElem_mem hk;have na:=ht.na;have la:=ht.len mi;have lb:=ht.len mk;exact q39_.spec hn (by omega) (by omega) fun v hv=>by have:=Auh (ht.val mi v hv);unfold Big;omega
theorem Awt {n left:Nat} (hn:n<=16) {P:Nat->Prop}:(∀ a,(Aa6 (Acz n) left).testBit a=true->P a)↔∀ a,a<n->left.testBit a=false->P a:=by
 constructor
 ·intro h a ha hl;refine h a ?_;rw [Aaw,Akc,hl,decide_eq_true (by omega)];rfl
 ·intro h a ha;rw [Aaw,Akc,Bool.and_eq_true,Bool.not_eq_true',decide_eq_true_eq] at ha;exact h a (by omega) ha.2
theorem q40_.spec {t:api_Table} (ht:TV t) {left i k:Nat} (hl:left<2^32) (hi:i<t.Rows.length) (hk:k<t.Rows.length):∃ b,q40_.C t (t.Rows[i]) (t.Rows[k]) left b/\(b=true↔MixP t left i k):=by
 have na:=ht.na;have nr:=ht.nr;have hf:Acz t.Attrs.length<2^32:=Aw0;have hrest:Aa6 (Acz t.Attrs.length) left<2^32:=Nat.lt_of_le_of_lt Ae0 hf;obtain ⟨b,h1,h2⟩:=q40_.enter t (t.Rows[i]) (t.Rows[k]) left (fun b=>(b=true↔MixP t left i k)) (by
  have go:∀ (d j:Nat),d+j=t.Rows.length->(∀ q,q<j->¬ ((∀ a,left.testBit a=true->EqA t q i a)/\∀ a,a<t.Attrs.length->left.testBit a=false->EqA t q k a))->q40_.L1 t (t.Rows[i]) (t.Rows[k]) left (j:Int) (fun b=>(b=true↔MixP t left i k)):=by
   intro d
   induction d with
   | zero=>
    intro j hd hno;apply q40_.L1_step;rw [if_neg (by omega)];simp only [Bool.false_eq_true,false_iff];rintro ⟨q,hq,h⟩;exact hno q (by omega) h
   | succ d ih=>
    intro j hd hno;have hj:j<t.Rows.length:=by omega
    have next:¬ ((∀ a,left.testBit a=true->EqA t j i a)/\∀ a,a<t.Attrs.length->left.testBit a=false->EqA t j k a)->q40_.L2 t (t.Rows[i]) (t.Rows[k]) left (j:Int) (fun b=>(b=true↔MixP t left i k)):=fun hn=>by
     apply q40_.L2_step;rw [Aa9 (by omega)];refine ih (j+1) (by omega) fun q hq=>?_;by_cases hqj:q=j
     ·subst hqj;exact hn
     ·exact hno q (by omega)
    apply q40_.L1_step;rw [if_pos (by omega)];refine ⟨t.Rows[j],Abb (List.getElem?_eq_getElem hj),_,Ao0 ht hl hj hi,?_⟩;by_cases ha:Aer (t.Rows[j]).Values (t.Rows[i]).Values left=true
    ·rw [if_pos ha];refine ⟨_,q48_.spec,?_⟩;rw [Acl (by simpa [top] using hf) (by simpa [top] using hl)];refine ⟨_,Ao0 ht hrest hj hk,?_⟩;by_cases hb:Aer (t.Rows[j]).Values (t.Rows[k]).Values (Aa6 (Acz t.Attrs.length) left)=true
     ·rw [if_pos hb];simp only [true_iff];exact ⟨j,hj,(Aiz ht hl hj hi).1 ha,(Awt na).1 ((Aiz ht hrest hj hk).1 hb)⟩
     ·rw [if_neg hb];exact next fun h=>hb ((Aiz ht hrest hj hk).2 ((Awt na).2 h.2))
    ·rw [if_neg ha];exact next fun h=>ha ((Aiz ht hl hj hi).2 h.1)
  exact go t.Rows.length 0 rfl fun q hq=>absurd hq (Nat.not_lt_zero q))
 exact ⟨b,h2,h1⟩
open Classical in
noncomputable def mvB (t:api_Table) (l r:Nat):Bool:=decide (MvP t l r)
theorem Ald {t:api_Table} {l r:Nat}:mvB t l r=true↔MvP t l r:=by unfold mvB;exact @decide_eq_true_iff _ (Classical.propDecidable _)
theorem orI {l r:Int} (hl:U32 l) (hr:U32 r):bOr .u32 l r=((sN l ||| sN r:Nat):Int):=by
 conv=>lhs;rw [hl.eq,hr.eq]
 exact Al1 hl.top hr.top
theorem Ar3 {n:Nat} {l r:Int}:inU n l r=true↔sN l ||| sN r<2^n:=by
 unfold inU;rw [Bool.and_eq_true,decide_eq_true_eq,decide_eq_true_eq,Be5]
noncomputable def Ai7 (t:api_Table) (m:api_MVD):Bool×Int:=if inU t.Attrs.length m.Lhs m.Rhs=true then (mvB t (sN m.Lhs) (sN m.Rhs),0) else (false,1)
namespace q41_
theorem loop {t:api_Table} (ht:TV t) {m:api_MVD} (hl:U32 m.Lhs) (hr:U32 m.Rhs) {φ:Bool×Int->Prop} (hf:¬ MvP t (sN m.Lhs) (sN m.Rhs)->φ (false,0)) (hp:MvP t (sN m.Lhs) (sN m.Rhs)->φ (true,0)) :
  ∀ (d i:Nat),d+i=t.Rows.length->(∀ q k,q<i->k<t.Rows.length->(∀ a,(sN m.Lhs).testBit a=true->EqA t q k a)->MixP t (sN m.Lhs ||| sN m.Rhs) q k)->L1 t m (i:Int) φ:=by
 have na:=ht.na;have nr:=ht.nr;have hor:sN m.Lhs ||| sN m.Rhs<2^32:=Nat.or_lt_two_pow hl.lt hr.lt
 intro d
 induction d with
 | zero=>
  intro i hd hdone;apply L1_step;rw [if_neg (by omega)];exact hp fun q k hq hk=>hdone q k (by omega) hk
 | succ d ih=>
  intro i hd hdone;have hi:i<t.Rows.length:=by omega
  apply L1_step;rw [if_pos (by omega)];have inner:∀ (c k:Nat),c+k=t.Rows.length->(∀ q,q<k->(∀ a,(sN m.Lhs).testBit a=true->EqA t i q a)->MixP t (sN m.Lhs ||| sN m.Rhs) i q)->L2 t m (i:Int) (k:Int) φ:=by
   intro c
   induction c with
   | zero=>
    intro k hc hk2;apply L2_step;rw [if_neg (by omega),Aa9 (by omega)];refine ih (i+1) (by omega) fun q k' hq hk'=>?_;by_cases hqi:q=i
    ·subst hqi;exact hk2 k' (by omega)
    ·exact hdone q k' (by omega) hk'
   | succ c ihc=>
    intro k hc hk2;have hk:k<t.Rows.length:=by omega
    have next:((∀ a,(sN m.Lhs).testBit a=true->EqA t i k a)->MixP t (sN m.Lhs ||| sN m.Rhs) i k)->L3 t m (i:Int) (k:Int) φ:=fun hn=>by
     apply L3_step;rw [Aa9 (by omega)];refine ihc (k+1) (by omega) fun q hq=>?_;by_cases hqk:q=k
     ·subst hqk;exact hn
     ·exact hk2 q (by omega)
    apply L2_step;rw [if_pos (by omega)];have hag:=Ao0 ht hl.lt hi hk;rw [← hl.eq] at hag;refine ⟨t.Rows[i],Abb (List.getElem?_eq_getElem hi),t.Rows[k],Abb (List.getElem?_eq_getElem hk),_,hag,?_⟩;by_cases ha:Aer (t.Rows[i]).Values (t.Rows[k]).Values (sN m.Lhs)=true
    ·rw [if_pos ha,orI hl hr];obtain ⟨b,hb,hbi⟩:=q40_.spec ht hor hi hk;refine ⟨b,hb,?_⟩;by_cases hbt:b=true
     ·rw [if_pos hbt];exact next fun _=>hbi.1 hbt
     ·rw [if_neg hbt];exact hf fun h=>hbt (hbi.2 (h i k hi hk ((Aiz ht hl.lt hi hk).1 ha)))
    ·rw [if_neg ha];exact next fun h=>absurd ((Aiz ht hl.lt hi hk).2 h) ha
  exact inner t.Rows.length 0 rfl fun q hq=>absurd hq (Nat.not_lt_zero q)
theorem spec {t:api_Table} (ht:TV t) {m:api_MVD} (hl:U32 m.Lhs) (hr:U32 m.Rhs):C t m (Ai7 t m):=by
 have na:=ht.na;obtain ⟨r,h1,h2⟩:=enter t m (fun r=>r=Ai7 t m) (by
  refine ⟨_,q37_.spec,?_⟩;rw [if_pos (Ami.2 ht)];have hw:=q33_.spec (n:=t.Attrs.length) (x:=bOr .u32 m.Lhs m.Rhs) (by omega) (by rw [orI hl hr];exact U32.of (Nat.or_lt_two_pow hl.lt hr.lt));refine ⟨_,hw,?_⟩;unfold Ai7;have e:sN (bOr .u32 m.Lhs m.Rhs)=sN m.Lhs ||| sN m.Rhs:=by rw [orI hl hr,Acw]
  by_cases hin:inU t.Attrs.length m.Lhs m.Rhs=true
  ·rw [if_pos (by rw [e,decide_eq_true_eq];exact Ar3.1 hin),if_pos hin];refine loop ht hl hr (fun hn=>?_) (fun hy=>by rw [Ald.2 hy]) t.Rows.length 0 rfl fun q k hq=>absurd hq (Nat.not_lt_zero q);cases hb:mvB t (sN m.Lhs) (sN m.Rhs) with
   | false=>rfl
   | true=>exact absurd (Ald.1 hb) hn
  ·rw [if_neg (by rw [e,decide_eq_true_eq];exact fun h=>hin (Ar3.2 h)),if_neg hin])
 rw [← h1];exact h2
end q41_
theorem Bb1 {a b:List api_Value} (hl:a.length=b.length):∀ {l:List Nat},(l.filterMap fun i=>a[i]?).length=(l.filterMap fun i=>b[i]?).length
 | []=>rfl
 | k::l=>by
  have ih:=Bb1 (a:=a) (b:=b) hl (l:=l);by_cases h:k<a.length
  ·have e1:=List.getElem?_eq_getElem h;have e2:=List.getElem?_eq_getElem (l:=b) (i:=k) (by omega);simp only [List.filterMap_cons,e1,e2,List.length_cons,ih]
  ·have e1:a[k]? = none:=List.getElem?_eq_none (by omega);have e2:b[k]? = none:=List.getElem?_eq_none (by omega);simp only [List.filterMap_cons,e1,e2,ih]
def pop8 (m:Nat):Nat:=((List.range 8).filter fun i=>m.testBit i).length
theorem Agx {n k:Nat}:((List.range 8).map (·+k)).filter (fun i=>n.testBit i)=((List.range 8).filter fun i=>(n / 2^k % 256).testBit i).map (·+k):=by
 rw [List.filter_map];congr 1;refine List.filter_congr fun i hi=>?_;have hi:=List.mem_range.1 hi;simp only [Function.comp];rw [show (256:Nat)=2^8 from rfl,Nat.testBit_mod_two_pow,Nat.testBit_div_two_pow];simp [hi]
theorem Bby (n:Nat):szN n=pop8 (n % 256)+pop8 (n / 2^8 % 256)+pop8 (n / 2^16 % 256)+pop8 (n / 2^24 % 256):=by
 have e:List.range 32=(List.range 8).map (·+0)++(List.range 8).map (·+8)++(List.range 8).map (·+16)++(List.range 8).map (·+24):=by decide
 unfold szN Aar pop8;rw [e,List.filter_append,List.filter_append,List.filter_append,Agx,Agx,Agx,Agx];simp only [List.length_append,List.length_map,Nat.pow_zero,Nat.div_one]
theorem Bfx (a:Nat):a &&& 255=a % 256:=Nat.and_two_pow_sub_one_eq_mod a 8
theorem Alj {m:Nat}:pop8 m<=8:=by
 unfold pop8;exact Nat.le_trans (List.length_filter_le _ _) (by simp)
theorem Aou {m:Nat}:u8i (UInt8.ofNat (pop8 m))=(pop8 m:Int):=by
 unfold u8i;rw [UInt8.toNat_ofNat'];have:=Alj (m:=m);omega
theorem q21_.spec {n:Nat} (hn:n<2^32):q21_.C n (szN n:Int):=by
 obtain ⟨r,h1,h2⟩:=q21_.enter n (fun r=>r=(szN n:Int)) (by
  have ht:n<2^top .u32:=by simpa [top] using hn
  have e24:=Ae2 (k:=.u32) (a:=n) (i:=24) ht;have e16:=Ae2 (k:=.u32) (a:=n) (i:=16) ht;have e8:=Ae2 (k:=.u32) (a:=n) (i:=8) ht;rw [show ((24:Nat):Int)=24 from rfl] at e24;rw [show ((16:Nat):Int)=16 from rfl] at e16;rw [show ((8:Nat):Int)=8 from rfl] at e8;have a255:∀ a:Nat,a<2^32->bAnd .u32 (a:Int) 255=((a % 256:Nat):Int):=fun a ha=>by
   have:=Ady (k:=.u32) (a:=a) (b:=255) (by simpa [top] using ha) (by simp only [top];omega);rw [show ((255:Nat):Int)=255 from rfl] at this;rw [this,Bfx]
  rw [e24,e16,e8,a255 _ (Nat.lt_of_le_of_lt (Nat.div_le_self _ _) hn),a255 _ (Nat.lt_of_le_of_lt (Nat.div_le_self _ _) hn),a255 _ hn];have h24:n / 2^24<256:=by omega
  have em:n / 2^24=n / 2^24 % 256:=(Nat.mod_eq_of_lt h24).symm;have hs:=Bby n;rw [em];have m1:n / 2^24 % 256<256:=Nat.mod_lt _ (by omega);have m2:n / 2^16 % 256<256:=Nat.mod_lt _ (by omega);have m3:n / 2^8 % 256<256:=Nat.mod_lt _ (by omega);have m4:n % 256<256:=Nat.mod_lt _ (by omega);generalize n / 2^24 % 256=q1 at *;generalize n / 2^16 % 256=q2 at *;generalize n / 2^8 % 256=q3 at *;generalize n % 256=q4 at *;clear hn ht e24 e16 e8 a255 h24 em;refine ⟨UInt8.ofNat (pop8 q1),⟨by omega,?_⟩,UInt8.ofNat (pop8 q2),⟨by omega,?_⟩,UInt8.ofNat (pop8 q3),⟨by omega,?_⟩,UInt8.ofNat (pop8 q4),⟨by omega,?_⟩,?_⟩
  ·rw [Int.toNat_natCast];clear hs m2 m3 m4
   revert q1
   decide +kernel
  ·rw [Int.toNat_natCast];clear hs m1 m3 m4
   revert q2
   decide +kernel
  ·rw [Int.toNat_natCast];clear hs m1 m2 m4
   revert q3
   decide +kernel
  ·rw [Int.toNat_natCast];clear hs m1 m2 m3
   revert q4
   decide +kernel
  ·rw [Aou,Aou,Aou,Aou];have b1:=Alj (m:=q1);have b2:=Alj (m:=q2);have b3:=Alj (m:=q3);have b4:=Alj (m:=q4);have w8:∀ a b:Nat,a+b<256->IntKind.wrap .u8 ((a:Int)+(b:Int))=((a+b:Nat):Int):=fun a b h=>by
    rw [show (a:Int)+(b:Int)=((a+b:Nat):Int) by omega];exact Ae3 (k:=.u8) (by simpa [top] using h)
   rw [w8 _ _ (by omega),w8 _ _ (by omega),w8 _ _ (by omega),hs];have:pop8 q1+pop8 q2+pop8 q3+pop8 q4=pop8 q4+pop8 q3+pop8 q2+pop8 q1:=by omega
   rw [this]
   exact Ack (by omega) (by omega))
 rw [← h1];exact h2
theorem q69_.spec {x:Int} (hx:U32 x):q69_.C x (szN (sN x):Int):=by
 have:=q21_.spec hx.lt;rw [← hx.eq] at this;obtain ⟨r,h1,h2⟩:=q69_.enter x (fun r=>r=(szN (sN x):Int)) ⟨_,this,rfl⟩;rw [← h1];exact h2
def ofV (c:Nat):api_Value:=
 match c % 12 with
 | 0=>⟨1,0,⟨#[]⟩⟩
 | 1=>⟨1,1,⟨#[]⟩⟩
 | 2=>⟨1,2,⟨#[]⟩⟩
 | 3=>⟨0,0,⟨#[]⟩⟩
 | 4=>⟨2,0,⟨#[97]⟩⟩
 | 5=>⟨2,0,⟨#[98]⟩⟩
 | 6=>⟨2,0,⟨#[]⟩⟩
 | 7=>⟨3,1,⟨#[]⟩⟩
 | 8=>⟨1,-1,⟨#[]⟩⟩
 | 9=>⟨2,0,⟨#[97,98]⟩⟩
 | 10=>⟨3,2,⟨#[]⟩⟩
 | _=>⟨1,7,⟨#[]⟩⟩
theorem Bbl (c:Nat):Aas (ofV c)=true/\Ahu (ofV c):=by
 have e1:((⟨#[97]⟩:ByteArray)).toList=[97]:=Alx (l:=[97]);have e2:((⟨#[98]⟩:ByteArray)).toList=[98]:=Alx (l:=[98]);have e3:((⟨#[97,98]⟩:ByteArray)).toList=[97,98]:=Alx (l:=[97,98]);unfold ofV Ahu Aas
 split<;>simp [Avi,e1,e2,e3]
namespace q66_
theorem spec (c:Nat):C c (ofV c):=by
 obtain ⟨r,h1,h2⟩:=enter c (fun r=>r=ofV c) (by
  have e:Int.tmod (c:Int) 12=((c % 12:Nat):Int):=rfl;rw [e];unfold ofV;have hc:c % 12<12:=Nat.mod_lt _ (by decide);generalize c % 12=m at hc
  match m,hc with
  | 0,_=>rfl
  | 1,_=>rfl
  | 2,_=>rfl
  | 3,_=>rfl
  | 4,_=>rfl
  | 5,_=>rfl
  | 6,_=>rfl
  | 7,_=>rfl
  | 8,_=>rfl
  | 9,_=>rfl
  | 10,_=>rfl
  | 11,_=>rfl)
 rw [← h1];exact h2
end q66_
def Ajg:List ByteArray:=[⟨#[97]⟩,⟨#[98]⟩,⟨#[99]⟩,⟨#[100]⟩,⟨#[101]⟩,⟨#[102]⟩,⟨#[103]⟩,⟨#[104]⟩]
structure RecOK (x:drossref03_Recipe):Prop where
 at_:0<=x.Attrs/\x.Attrs<256
 gap:0<=x.Gap/\x.Gap<256
 code:∀ r∈x.Rows,∀ c∈r,0<=c/\c<256
def An7 (r:List Int) (k:Nat):Nat:=((r[k]?).getD 0).toNat
def Adf (r:List Int) (n:Nat):List api_Value:=(List.range n).map fun k=>ofV (An7 r k)
def Adx (x:drossref03_Recipe) (n:Nat):api_Table:=⟨⟨#[114]⟩,Ajg.take n,x.Rows.zipIdx.map fun p=>⟨1+(p.2:Int)*(1+x.Gap % 3),Adf p.1 n⟩⟩
namespace q57_
theorem inner {x:drossref03_Recipe} {n:Nat} {φ:api_Table->Prop} {acc:List api_Row} {i:Nat} {id:Int} {r:List Int} (hn:n<=8) (hx:RecOK x) (hr:x.Rows[i]? = some r) (hi:i<10000) (hacc:acc.length<=10000)
  (h:L1 x n (acc++[⟨id,Adf r n⟩]) ((i+1:Nat):Int) φ):∀ k,k<=n->L2 x n acc i id (Adf r k) k φ:=by
 refine down ?_ ?_
 ·apply L2_step;rw [if_neg (by omega),Aa9 (by omega)];exact ⟨by omega,h⟩
 ·intro k hk h;apply L2_step;rw [if_pos (by omega)];have e:Adf r (k+1)=Adf r k++[ofV (An7 r k)]:=by simp [Adf,List.range_succ]
  rw [e] at h;have next:∀ c:Int,c=(An7 r k:Int)->L3 x n acc i id (Adf r k) k c φ:=by
   rintro _ rfl;apply L3_step;refine ⟨_,q66_.spec _,by simp [Adf];omega,?_⟩;rw [Aa9 (by omega)];exact h
  refine ⟨r,Abb hr,?_⟩
  split
  ·rename_i hlt;have hlt:k<r.length:=by omega
   have hg:=List.getElem?_eq_getElem hlt;refine ⟨r[k],Abb hg,next _ ?_⟩;have:=hx.code r (List.mem_of_getElem? hr) r[k] (List.getElem_mem hlt);unfold An7;rw [hg];simp;omega
  ·rename_i hlt;refine next _ ?_;unfold An7;rw [List.getElem?_eq_none (by omega)];rfl
theorem spec {x:drossref03_Recipe} {n:Nat} (hn:n<=8) (hx:RecOK x) (hr:x.Rows.length<=10000):C x n (Adx x n):=by
 obtain ⟨r,h1,h2⟩:=enter x n (fun r=>r=Adx x n) (by
  refine ⟨by omega,by simp;omega,by simp;omega,by simp;omega,?_⟩;have loop:∀ i,i<=x.Rows.length->L1 x n ((x.Rows.zipIdx.take i).map fun p=>(⟨1+(p.2:Int)*(1+x.Gap % 3),Adf p.1 n⟩:api_Row)) i fun r=>r=Adx x n:=by
   refine down ?_ ?_
   ·apply L1_step;rw [if_neg (by omega),List.take_of_length_le (l:=x.Rows.zipIdx) (by simp)];simp only [Int.toNat_natCast,Nat.sub_zero,List.drop_zero];rfl
   ·intro i hi h;apply L1_step;rw [if_pos (by omega)];have hg:=List.getElem?_eq_getElem hi;generalize x.Rows[i]=row at hg;have hg2:x.Rows.zipIdx[i]? = some (row,i):=by rw [List.getElem?_zipIdx,hg];simp
    rw [List.take_add_one,hg2] at h;have g:=hx.gap;have e0:Int.tmod x.Gap 3=x.Gap % 3:=by rw [Int.tmod_eq_emod_of_nonneg g.1]
    have hp:0<=(i:Int)*(1+x.Gap % 3)/\(i:Int)*(1+x.Gap % 3)<=30000:=by
     have h3:x.Gap % 3=0∨x.Gap % 3=1∨x.Gap % 3=2:=by omega
     rcases h3 with h | h | h<;>rw [h]<;>omega
    rw [e0,Ack (x:=x.Gap % 3) (by omega) (by omega),Ack (x:=1+x.Gap % 3) (by omega) (by omega),Ack (x:=(i:Int)*(1+x.Gap % 3)) (by omega) (by omega),Ack (x:=1+(i:Int)*(1+x.Gap % 3)) (by omega) (by omega)];refine inner (r:=row) hn hx hg (by omega) (by simp;omega) ?_ 0 (Nat.zero_le _);simpa using h
  have:=loop 0 (Nat.zero_le _)
  simpa using this)
 rw [← h1];exact h2
end q57_
def tabF (x:drossref03_Recipe) (most:Nat):api_Table×Bool:=if x.Rows.length<=most then (Adx x (x.Attrs % 6).toNat,true) else (⟨⟨#[]⟩,[],[]⟩,false)
theorem q43_.spec {x:drossref03_Recipe} {most:Nat} (hm:most<=10000) (hx:RecOK x):q43_.C x most (tabF x most):=by
 obtain ⟨r,h1,h2⟩:=q43_.enter x most (fun r=>r=tabF x most) (by
  unfold tabF
  split
  ·rw [if_neg (by omega)]
  ·rw [if_pos (by omega)];have:=hx.at_;have e:IntKind.wrap .i64 (Int.tmod x.Attrs 6)=(((x.Attrs % 6).toNat:Nat):Int):=by
    rw [Int.tmod_eq_emod_of_nonneg this.1,Ack (by omega) (by omega)];omega
   rw [e]
   exact ⟨_,q57_.spec (by omega) hx (by omega),rfl⟩)
 rw [← h1];exact h2
theorem Be3 {b:UInt8} (h:letB (u8i b)=true):Afw ⟨#[b]⟩=true:=by
 have e:((⟨#[b]⟩:ByteArray)).toList=[b]:=Alx (l:=[b]);unfold Afw;rw [e];simp [Abk,h,Aoq]
theorem Bbk:∀ n,n<=8->Ads (Ajg.take n)=true:=by
 have hn:∀ b:UInt8,letB (u8i b)=true->Afw ⟨#[b]⟩=true:=fun b h=>Be3 h;have hne:∀ a b:UInt8,a≠b->eqS ⟨#[a]⟩ ⟨#[b]⟩=false:=by
  intro a b h;unfold eqS;rw [decide_eq_false_iff_not];intro e;have:=congrArg (fun x:ByteArray=>x.data.toList) e;simp at this;exact h this.symm
 intro n hn8;have key:Ads Ajg=true:=by
  unfold Ads Ajg;simp only [Afx,List.nil_append,List.cons_append,List.any_nil,List.any_cons];rw [hn 97 (by decide),hn 98 (by decide),hn 99 (by decide),hn 100 (by decide),hn 101 (by decide),hn 102 (by decide),hn 103 (by decide),hn 104 (by decide)];simp [hne]
 have pre:∀ (l pre:List ByteArray) (m:Nat),Afx pre l=true->Afx pre (l.take m)=true:=by
  intro l
  induction l with
  | nil=>intro pre m h;simpa using h
  | cons a l ih=>
   intro pre m h;cases m with
   | zero=>rfl
   | succ m=>
    simp only [List.take_succ_cons,Afx,Bool.and_eq_true] at h ⊢;exact ⟨h.1,ih _ _ h.2⟩
 exact pre _ _ _ key
theorem Aru {n:Nat} {g:Int} (hg:0<=g):∀ (l:List (List Int)) (i:Nat) (last:Int),last<1+(i:Int)*(1+g)->Adv n last ((l.zipIdx i).map fun p=>(⟨1+(p.2:Int)*(1+g),Adf p.1 n⟩:api_Row))=0
 | [],_,_,_=>rfl
 | r::l,i,last,h=>by
  simp only [List.zipIdx_cons,List.map_cons,Adv];rw [if_neg (by omega),if_pos (by simp [Adf]),if_pos]
  ·refine Aru hg l (i+1) _ ?_;have:((i+1:Nat):Int)*(1+g)=(i:Int)*(1+g)+(1+g):=by rw [Int.natCast_add,Int.add_mul];simp
   omega
  ·unfold Ade Adf;rw [List.all_eq_true];intro v hv;obtain ⟨k,_,rfl⟩:=List.mem_map.1 hv;exact (Bbl _).1
theorem Ba4 {x:drossref03_Recipe} {n:Nat} (hn:n<=8) (hx:RecOK x) (hr:x.Rows.length<=1000):TV (Adx x n):=by
 have hl:(Ajg.take n).length=n:=by simp [Ajg];omega
 refine ⟨Be3 (by decide),by simp only [Adx,hl];omega,by simp [Adx];omega,Bbk n hn,?_⟩;simp only [Adx,hl];have g:=hx.gap;exact Aru (by omega) x.Rows 0 0 (by omega)
theorem Bdz {x:drossref03_Recipe} {n:Nat}:TNum (Adx x n):=by
 intro r hr v hv;simp only [Adx] at hr;obtain ⟨p,_,rfl⟩:=List.mem_map.1 hr;simp only [Adf] at hv;obtain ⟨k,_,rfl⟩:=List.mem_map.1 hv;exact (Bbl _).2
theorem Ba3 {x:drossref03_Recipe} {n:Nat} (hn:n<=8):(Adx x n).Attrs.length=n:=by simp [Adx,Ajg];omega
end Go.Own
