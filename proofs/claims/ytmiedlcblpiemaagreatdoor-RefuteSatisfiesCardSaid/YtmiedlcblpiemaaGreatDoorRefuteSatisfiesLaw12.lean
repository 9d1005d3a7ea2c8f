/- What the functions answer. No conditions. -/
import Derived.Test.YtmiedlcblpiemaaGreatDoorRefuteSatisfiesLaw7
import Derived.Test.YtmiedlcblpiemaaGreatDoorRefuteSatisfiesLaw11
set_option linter.all false
namespace Go.Own
def letB (x:Int):Bool:=decide (97<=x/\x<=122∨65<=x/\x<=90∨x=95)
def alnB (x:Int):Bool:=letB x || decide (48<=x/\x<=57)
def Arb:List UInt8:=[110,117,108,108]
theorem Ay7:((⟨#[110,117,108,108]⟩:ByteArray)).toList=Arb:=Ayu (l:=Arb)
theorem Bav:((⟨#[]⟩:ByteArray)).toList=[]:=Ayu (l:=[])
def Abd:List UInt8->Bool
 | []=>false
 | b::r=>decide (r.length<24)&&letB (u8i b)&&!decide (b::r=Arb)&&r.all fun b=>alnB (u8i b)
def Ahx (s:ByteArray):Bool:=Abd s.toList
namespace q25_
theorem spec {x : Int} : C x (letB x) := by
  obtain ⟨r, h1, h2⟩ := enter x (fun r => r = letB x) (by
    unfold letB
    repeat' split
    all_goals first
      | (symm; rw [decide_eq_true_iff]; omega)
      | (by_cases h : x = 95
         · simp [h]
         · have : (x == 95) = false := by simpa using h
           rw [this]; symm; rw [decide_eq_false_iff_not]; omega))
  rw [← h1]; exact h2
end q25_
theorem Av7 {φ:Bool->Prop} {P:Prop} {x:Int} (h:if alnB x=true then P else φ false) (hl:¬ letB x=true):if x<48 then φ false else if 57<x then φ false else P:=by
 have e:alnB x=decide (48<=x/\x<=57):=by unfold alnB;rw [Bool.eq_false_iff.2 hl,Bool.false_or]
 rw [e] at h
 repeat' split
 ·rw [if_neg (by rw [decide_eq_true_iff];omega)] at h;exact h
 ·rw [if_neg (by rw [decide_eq_true_iff];omega)] at h;exact h
 ·rw [if_pos (by rw [decide_eq_true_iff];omega)] at h;exact h
namespace q47_
theorem spec {s:ByteArray}:C s (Ahx s):=by
 obtain ⟨r,h1,h2⟩:=enter s (fun r=>r=Ahx s) (by
  unfold Ahx;rw [Ac6,Ay7];cases hs:s.toList with
  | nil=>simp [Abd]
  | cons b t=>
   rw [if_neg (by simp;omega)]
   split
   ·rename_i hn;have hn:24<=t.length:=by simp at hn;omega
    simp [Abd];omega
   ·rename_i hn;have hn:t.length<24:=by simp at hn;omega
    refine ⟨b,Adu (by rw [hs];rfl),letB (u8i b),q25_.spec,?_⟩
    split
    ·rename_i hb
     split
     ·rename_i h0;simp [Abd,Arb,h0]
     ·rename_i h0;refine Alh (l:=s.toList) (p:=fun b=>alnB (u8i b)) (L:=fun i=>L1 s i fun r=>r=Abd (b::t)) (φ:=fun r=>r=Abd (b::t)) ?_ ?_ ?_
      ·intro h;apply L1_step;rw [Ac6,if_neg (by omega)];exact h
      ·intro k c hc hk h;apply L1_step;rw [Ac6,if_pos (by omega)];have next:L1 s ((k+1:Nat):Int) (fun r=>r=Abd (b::t))->L2 s k fun r=>r=Abd (b::t):=fun h=>by
        apply L2_step;have hsl:s.toList.length=(b::t).length:=by rw [hs]
        simp at hsl;rw [Aa3 (by omega)];exact h
       refine ⟨c,Adu hc,_,q25_.spec,?_⟩
       split
       ·rename_i hl;rw [if_pos (by unfold alnB;rw [hl];rfl)] at h;exact next h
       ·rename_i hl;have h3:=Av7 (φ:=fun r=>r=Abd (b::t)) (P:=L2 s k fun r=>r=Abd (b::t)) (by
         split
         ·rename_i hh;rw [if_pos hh] at h;exact next h
         ·rename_i hh;rw [if_neg hh] at h;exact h) hl
        refine ⟨c,Adu hc,?_⟩
        split
        ·rename_i h4;rw [if_pos h4] at h3;exact h3
        ·rename_i h4;rw [if_neg h4] at h3;exact ⟨c,Adu hc,h3⟩
      ·rw [hs];have e:alnB (u8i b)=true:=by unfold alnB;rw [hb];rfl
       simp only [List.all_cons,e,Bool.true_and,Abd,hb,h0,decide_false,Bool.not_false,Bool.and_true];simp [hn]
    ·rename_i hb
     simp [Abd,hb])
 rw [← h1];exact h2
end q47_
namespace q63_
theorem two {s:ByteArray} {i:Int} {φ:Bool->Prop} {x:Int} (h:if letB x=true then L3 s i φ else if i=0 then φ false else if x<48 then φ false else if 57<x then φ false else L3 s i φ):L2 s i x (letB x) φ:=by
 apply L2_step;exact h
theorem spec {s : ByteArray} : C s (Ahx s) := by
  obtain ⟨r, h1, h2⟩ := enter s (fun r => r = Ahx s) (by
    unfold Ahx;rw [Ac6, Ay7, Bav];cases hs : s.toList with
    | nil => simp [Abd]
    | cons b t =>
      rw [if_neg (by simp)]
      split
      · rename_i hn
        have hn : 24 <= t.length := by simp at hn; omega
        simp [Abd]; omega
      · rename_i hn
        have hn : t.length < 24 := by simp at hn; omega
        have hlen : s.toList.length = t.length + 1 := by rw [hs]; rfl
        split
        · rename_i h0
          simp [Abd, Arb, h0]
        · rename_i h0
          have body : ∀ (k : Nat) c, s.toList[k]? = some c -> (if letB (u8i c) = true then L1 s ((k + 1 : Nat) : Int) (fun r => r = Abd (b :: t)) else if (k : Int) = 0 then false = Abd (b :: t) else if (u8i c) < 48 then false = Abd (b :: t) else if 57 < (u8i c) then false = Abd (b :: t) else L1 s ((k + 1 : Nat) : Int) (fun r => r = Abd (b :: t))) -> L1 s k (fun r => r = Abd (b :: t)) := by
            intro k c hc h;have hk := (List.getElem?_eq_some_iff.1 hc).1;apply L1_step;rw [Ac6, if_pos (by omega)];refine ⟨c, Adu hc, ?_⟩;have next : L1 s ((k + 1 : Nat) : Int) (fun r => r = Abd (b :: t)) -> L3 s k fun r => r = Abd (b :: t) := fun h => by
              apply L3_step;rw [Aa3 (by omega)];exact h
            have key : L2 s k (u8i c) (letB (u8i c)) fun r => r = Abd (b :: t) := by
              apply two
              split
              · rename_i hh; rw [if_pos hh] at h; exact next h
              · rename_i hh; rw [if_neg hh] at h
                split
                · rename_i h2; rw [if_pos h2] at h; exact h
                · rename_i h2; rw [if_neg h2] at h
                  split
                  · rename_i h3; rw [if_pos h3] at h; exact h
                  · rename_i h3; rw [if_neg h3] at h
                    split
                    · rename_i h4; rw [if_pos h4] at h; exact h
                    · rename_i h4; rw [if_neg h4] at h; exact next h
            have e : ∀ v, v = letB (u8i c) -> L2 s k (u8i c) v fun r => r = Abd (b :: t) := by rintro _ rfl; exact key
            repeat' split
            all_goals apply e
            all_goals unfold letB
            all_goals first
              | (symm; rw [decide_eq_true_iff]; omega)
              | (by_cases h : u8i c = 95
                 · simp [h]
                 · have : (u8i c == 95) = false := by simpa using h
                   rw [this]; symm; rw [decide_eq_false_iff_not]; omega)
          have h0s : s.toList[0]? = some b := by rw [hs]; rfl
          refine body 0 b h0s ?_
          split
          · rename_i hb
            have rest := Alh (l := t) (p := fun b => alnB (u8i b)) (L := fun i => L1 s (i + 1) fun r => r = Abd (b :: t)) (φ := fun r => r = Abd (b :: t)) ?_ ?_ ?_
            · simpa using rest
            · intro h
              apply L1_step;rw [Ac6, if_neg (by omega)]; exact h
            · intro k c hc hk h
              have e1 : ((k : Nat) : Int) + 1 = ((k + 1 : Nat) : Int) := by omega
              rw [e1];refine body (k + 1) c (by rw [hs]; simpa using hc) ?_
              split
              · rename_i hl
                rw [if_pos (by unfold alnB; rw [hl]; rfl)] at h;exact h
              · rename_i hl
                rw [if_neg (by omega)];exact Av7 (φ := fun r => r = Abd (b :: t)) h hl
            · simp [Abd, hb, h0, hn]
          · rename_i hb
            simp [Abd, hb])
  rw [← h1]; exact h2
end q63_
def eqS (x a:ByteArray):Bool:=decide (a=x)
def Akz:List ByteArray->List ByteArray->Bool
 | _,[]=>true
 | pre,a::r=>Ahx a&&!pre.any (eqS a)&&Akz (pre++[a]) r
def Af3 (l:List ByteArray):Bool:=Akz [] l
namespace q9_
theorem spec {l:List ByteArray} {x:ByteArray} (hn:l.length<Big):C l x (ixI (eqS x) l):=by
 obtain ⟨r,h1,h2⟩:=enter l x (fun r=>r=ixI (eqS x) l) (by
  refine Alt (l:=l) (p:=eqS x) (L:=fun i=>L1 l x i _) (φ:=fun r=>r=ixI (eqS x) l) ?_ ?_ rfl
  ·intro h;apply L1_step;rw [if_neg (by omega)];exact h
  ·intro k a ha hk h;apply L1_step;rw [if_pos (by omega)];refine ⟨a,Ab2 ha,?_⟩;rw [Aa3 (by unfold Big at hn;omega)]
   split
   ·rename_i hh;rw [if_pos (by simp [eqS,Aj0.1 hh])] at h;exact h
   ·rename_i hh;rw [if_neg (by simp only [eqS,decide_eq_true_eq];rintro rfl;exact hh rfl)] at h;exact h)
 rw [← h1];exact h2
end q9_
theorem q8_.spec {l:List ByteArray} {x:ByteArray} (hn:l.length<Big):q8_.C l x (l.any (eqS x)):=by
 obtain ⟨r,h1,h2⟩:=q8_.enter l x (fun r=>r=l.any (eqS x)) ⟨_,q9_.spec hn,by rw [Ash]⟩;rw [← h1];exact h2
namespace q48_
theorem spec {l:List ByteArray} {x:ByteArray} (hn:l.length<Big):C l x (ixI (eqS x) l):=by
 obtain ⟨r,h1,h2⟩:=enter l x (fun r=>r=ixI (eqS x) l) (by
  refine Alt (l:=l) (p:=eqS x) (L:=fun i=>L1 l x i _) (φ:=fun r=>r=ixI (eqS x) l) ?_ ?_ rfl
  ·intro h;apply L1_step;rw [if_neg (by omega)];exact h
  ·intro k a ha hk h;apply L1_step;rw [if_pos (by omega)];refine ⟨a,Ab2 ha,?_⟩;rw [Aa3 (by unfold Big at hn;omega)]
   split
   ·rename_i hh;rw [if_pos (by simp [eqS,Aj0.1 hh])] at h;exact h
   ·rename_i hh;rw [if_neg (by simp only [eqS,decide_eq_true_eq];rintro rfl;exact hh rfl)] at h;exact h)
 rw [← h1];exact h2
end q48_
theorem Ar8 {l : List ByteArray} {L : Int -> Prop} {P Q : Prop} (stop : P -> L (l.length : Int))
    (step : ∀ (k : Nat) a, l[k]? = some a -> k < l.length -> (if Ahx a = true then (if (l.take k).any (eqS a) = true then Q else L ((k + 1 : Nat) : Int)) else Q) -> L k) (h : Af3 l = true -> P) (h' : Af3 l = false -> Q) : L 0 := by
  have : ∀ (r : List ByteArray) (k : Nat), l.drop k = r -> k <= l.length -> (Akz (l.take k) r = true -> P) -> (Akz (l.take k) r = false -> Q) -> L k := by
    intro r
    induction r with
    | nil => intro k hd hk h h'; have : k = l.length := by have := Abs hd; omega
             subst this; exact stop (h rfl)
    | cons a r ih =>
      intro k hd hk h h';have hlt := Abt hd;refine step k a (Aax hd) hlt ?_;have hn := ih (k + 1) (Aao hd) hlt;have e : l.take (k + 1) = l.take k ++ [a] := by rw [List.take_add_one, Aax hd]; rfl
      rw [e] at hn;simp only [Akz] at h h'
      split
      · rename_i h1
        split
        · rename_i h2
          exact h' (by simp [h1, h2])
        · rename_i h2
          have h2 := Bool.eq_false_iff.2 h2;exact hn (fun hh => h (by simp [h1, h2, hh])) (fun hh => h' (by simp [h1, h2, hh]))
      · rename_i h1
        have h1 := Bool.eq_false_iff.2 h1;exact h' (by simp [h1])
  exact this l 0 rfl (Nat.zero_le _) h h'
theorem q32_.spec {l:List ByteArray} (hn:l.length<Big):q32_.C l (Af3 l):=by
 obtain ⟨r,h1,h2⟩:=q32_.enter l (fun r=>r=Af3 l) (by
  refine Ar8 (l:=l) (L:=fun i=>q32_.L1 l i _) (P:=true=Af3 l) (Q:=false=Af3 l) ?_ ?_ Eq.symm Eq.symm
  ·intro h;apply q32_.L1_step;rw [if_neg (by omega)];exact h
  ·intro k a ha hk h;apply q32_.L1_step;rw [if_pos (by omega)];refine ⟨a,Ab2 ha,_,q47_.spec,?_⟩
   split
   ·rename_i h1;rw [if_pos h1] at h;refine ⟨by omega,by omega,_,q48_.spec (by rw [List.length_take];omega),?_⟩;rw [Int.toNat_natCast,Nat.sub_zero,Aa3 (by unfold Big at hn;omega)];have e:(0<=ixI (eqS a) (l.take k))↔(l.take k).any (eqS a)=true:=by rw [← Ash,decide_eq_true_iff]
    split
    ·rename_i h2;rw [if_pos (e.1 h2)] at h;exact h
    ·rename_i h2;rw [if_neg (fun hh=>h2 (e.2 hh))] at h;exact h
   ·rename_i h1;rw [if_neg h1] at h;exact h)
 rw [← h1];exact h2
def Aap (v:api_Value):Bool:=decide (v.Kind=0/\v.Num=0/\v.Str.toList=[]∨v.Kind=1/\v.Str.toList=[]∨v.Kind=2/\v.Num=0/\v.Str.toList.length<=200∨v.Kind=3/\1<=v.Num/\v.Str.toList=[])
theorem Ars {v : api_Value} {φ : Bool -> Prop} (h : φ (Aap v)) : (if v.Kind = 0 then (if v.Num = 0 then φ ((v.Str.toList == ((⟨#[]⟩ : ByteArray)).toList)) else φ false) else (if v.Kind = 1 then φ ((v.Str.toList == ((⟨#[]⟩ : ByteArray)).toList)) else (if v.Kind = 2 then (if v.Num = 0 then φ ((decide ((Acw v.Str) <= 200))) else φ false) else (if v.Kind = 3 then (if 1 <= v.Num then φ ((v.Str.toList == ((⟨#[]⟩ : ByteArray)).toList)) else φ false) else φ false)))) := by
  have e : ∀ b, b = Aap v -> φ b := by rintro _ rfl; exact h
  have e0 : (v.Str.toList == ((⟨#[]⟩ : ByteArray)).toList) = decide (v.Str.toList = []) := by
    rw [Bav];by_cases h : v.Str.toList = []
    · simp [h]
    · simp [h]
  rw [e0, Ac6]
  repeat' split
  all_goals apply e
  all_goals unfold Aap
  all_goals first
    | (rw [decide_eq_decide]; omega)
    | (symm; rw [decide_eq_false_iff_not]; omega)
    | (rw [decide_eq_decide]; constructor
       · intro h; simp_all
       · intro h; simp_all)
theorem q68_.spec {v:api_Value}:q68_.C v (Aap v):=by
 obtain ⟨r,h1,h2⟩:=q68_.enter v (fun r=>r=Aap v) (Ars (φ:=fun r=>r=Aap v) rfl);rw [← h1];exact h2
theorem q31_.spec {v:api_Value}:q31_.C v (Aap v):=by
 obtain ⟨r,h1,h2⟩:=q31_.enter v (fun r=>r=Aap v) (Ars (φ:=fun r=>r=Aap v) rfl);rw [← h1];exact h2
def Adk (l:List api_Value):Bool:=l.all Aap
theorem q17_.spec {v:api_Value}:q17_.C v (!Aap v):=by
 obtain ⟨r,h1,h2⟩:=q17_.enter v (fun r=>r=!Aap v) ⟨_,q68_.spec,rfl⟩;rw [← h1];exact h2
namespace q1_
theorem spec {l:List api_Value} (hn:l.length<Big):C l (ixI (fun v=>!Aap v) l):=by
 obtain ⟨r,h1,h2⟩:=enter l (fun r=>r=ixI (fun v=>!Aap v) l) (by
  refine Alt (l:=l) (p:=fun v=>!Aap v) (L:=fun i=>L1 l i _) (φ:=fun r=>r=ixI (fun v=>!Aap v) l) ?_ ?_ rfl
  ·intro h;apply L1_step;rw [if_neg (by omega)];exact h
  ·intro k a ha hk h;apply L1_step;rw [if_pos (by omega)];refine ⟨a,Ab2 ha,_,q17_.spec,?_⟩;rw [Aa3 (by unfold Big at hn;omega)]
   exact h)
 rw [← h1];exact h2
end q1_
theorem q0_.spec {l:List api_Value} (hn:l.length<Big):q0_.C l (!Adk l):=by
 obtain ⟨r,h1,h2⟩:=q0_.enter l (fun r=>r=!Adk l) ⟨_,q1_.spec hn,by
  rw [Ash];unfold Adk;rw [List.any_eq_not_all_not];simp⟩
 rw [← h1];exact h2
theorem q23_.spec {l:List api_Value} (hn:l.length<Big):q23_.C l (Adk l):=by
 obtain ⟨r,h1,h2⟩:=q23_.enter l (fun r=>r=Adk l) ⟨_,q0_.spec hn,by
  show (!(!Adk l))=_
  rw [Bool.not_not]⟩
 rw [← h1];exact h2
theorem q24_.spec {l:List api_Value} (hn:l.length<Big):q24_.C l (Adk l):=by
 obtain ⟨r,h1,h2⟩:=q24_.enter l (fun r=>r=Adk l) (by
  refine Alh (l:=l) (p:=Aap) (L:=fun i=>q24_.L1 l i _) (φ:=fun r=>r=Adk l) ?_ ?_ rfl
  ·intro h;apply q24_.L1_step;rw [if_neg (by omega)];exact h
  ·intro k a ha hk h;apply q24_.L1_step;rw [if_pos (by omega)];refine ⟨a,Ab2 ha,_,q31_.spec,?_⟩;rw [Aa3 (by unfold Big at hn;omega)]
   exact h)
 rw [← h1];exact h2
def Aed (n:Nat):Int->List api_Row->Int
 | _,[]=>0
 | last,r::rs=>if r.ID<=last then 1 else if r.Values.length=n then (if Adk r.Values=true then Aed n r.ID rs else 1) else 6
def Acd (t:api_Table):Int:=if Ahx t.Name=true then (if 16<t.Attrs.length then 3 else if 1000<t.Rows.length then 3 else if Af3 t.Attrs=true then Aed t.Attrs.length 0 t.Rows else 1) else 1
theorem Aub {n : Nat} {l : List api_Row} {L : Int -> Int -> Prop} {φ : Int -> Prop} (stop : ∀ last, φ 0 -> L last (l.length : Int))
    (step : ∀ (k : Nat) r last, l[k]? = some r -> k < l.length -> (if r.ID <= last then φ 1 else if r.Values.length = n then (if Adk r.Values = true then L r.ID ((k + 1 : Nat) : Int) else φ 1) else φ 6) -> L last k) (h : φ (Aed n 0 l)) : L 0 0 := by
  have : ∀ (r : List api_Row) (k : Nat) (last : Int), l.drop k = r -> k <= l.length -> φ (Aed n last r) -> L last k := by
    intro r
    induction r with
    | nil => intro k last hd hk h; have : k = l.length := by have := Abs hd; omega
             subst this; exact stop _ h
    | cons a r ih =>
      intro k last hd hk h;have hlt := Abt hd;refine step k a last (Aax hd) hlt ?_;simp only [Aed] at h
      split
      · rename_i h1; rw [if_pos h1] at h; exact h
      · rename_i h1; rw [if_neg h1] at h
        split
        · rename_i h2; rw [if_pos h2] at h
          split
          · rename_i h3; rw [if_pos h3] at h; exact ih (k + 1) _ (Aao hd) hlt h
          · rename_i h3; rw [if_neg h3] at h; exact h
        · rename_i h2; rw [if_neg h2] at h; exact h
  exact this l 0 0 rfl (Nat.zero_le _) h
namespace q69_
theorem rows {t:api_Table} {φ:Int->Prop} (hr:t.Rows.length<=1000) (ha:t.Attrs.length<=16) (h:φ (Aed t.Attrs.length 0 t.Rows)):L2 t 0 0 φ:=by
 refine Aub (n:=t.Attrs.length) (l:=t.Rows) (L:=fun last i=>L2 t last i φ) (φ:=φ) ?_ ?_ h
 ·intro last h;apply L2_step;rw [if_neg (by omega)];exact h
 ·intro k r last hr hk h;apply L2_step;rw [if_pos (by omega)];refine ⟨r,Ab2 hr,?_⟩
  split
  ·rename_i h1;rw [if_pos h1] at h;exact h
  ·rename_i h1;rw [if_neg h1] at h
   split
   ·rename_i h2;have h2:r.Values.length=t.Attrs.length:=by omega
    rw [if_pos h2] at h;refine ⟨_,q23_.spec (by unfold Big;omega),?_⟩;rw [Aa3 (by omega)];exact h
   ·rename_i h2;rw [if_neg (by omega)] at h;exact h
theorem spec {t:api_Table}:C t (Acd t):=by
 obtain ⟨r,h1,h2⟩:=enter t (fun r=>r=Acd t) (by
  refine ⟨_,q63_.spec,?_⟩;unfold Acd
  split
  ·by_cases h1:16<t.Attrs.length
   ·rw [if_pos (by omega),if_pos h1]
   ·rw [if_neg (by omega),if_neg h1];by_cases h2:1000<t.Rows.length
    ·rw [if_pos (by omega),if_pos h2]
    ·rw [if_neg (by omega),if_neg h2];refine Ar8 (l:=t.Attrs) (L:=fun i=>L1 t i _) (P:=Aed t.Attrs.length 0 t.Rows=if Af3 t.Attrs=true then Aed t.Attrs.length 0 t.Rows else 1) (Q:=(1:Int)=if Af3 t.Attrs=true then Aed t.Attrs.length 0 t.Rows else 1) ?_ ?_ ?_ ?_
     ·intro h;apply L1_step;rw [if_neg (by omega)];exact rows (φ:=fun r=>r=if Af3 t.Attrs=true then Aed t.Attrs.length 0 t.Rows else 1) (by omega) (by omega) h
     ·intro k a ha hk h;apply L1_step;rw [if_pos (by omega)];refine ⟨a,Ab2 ha,_,q63_.spec,?_⟩
      split
      ·rename_i h1;rw [if_pos h1] at h;refine ⟨by omega,by omega,_,q8_.spec (by rw [List.length_take];unfold Big;omega),?_⟩;rw [Int.toNat_natCast,Nat.sub_zero,Aa3 (by omega)];exact h
      ·rename_i h1;rw [if_neg h1] at h;exact h
     ·intro h;rw [if_pos h]
     ·intro h;rw [if_neg (by rw [h];decide)]
  ·rfl)
 rw [← h1];exact h2
end q69_
namespace q33_
theorem rows {t:api_Table} {φ:Int->Prop} (hr:t.Rows.length<=1000) (ha:t.Attrs.length<=16) (h:φ (Aed t.Attrs.length 0 t.Rows)):L1 t 0 0 φ:=by
 refine Aub (n:=t.Attrs.length) (l:=t.Rows) (L:=fun last i=>L1 t last i φ) (φ:=φ) ?_ ?_ h
 ·intro last h;apply L1_step;rw [if_neg (by omega)];exact h
 ·intro k r last hr hk h;apply L1_step;rw [if_pos (by omega)];refine ⟨r,Ab2 hr,?_⟩
  split
  ·rename_i h1;rw [if_pos h1] at h;exact h
  ·rename_i h1;rw [if_neg h1] at h
   split
   ·rename_i h2;have h2:r.Values.length=t.Attrs.length:=by omega
    rw [if_pos h2] at h;refine ⟨_,q24_.spec (by unfold Big;omega),?_⟩;rw [Aa3 (by omega)];exact h
   ·rename_i h2;rw [if_neg (by omega)] at h;exact h
theorem spec {t:api_Table}:C t (Acd t):=by
 obtain ⟨r,h1,h2⟩:=enter t (fun r=>r=Acd t) (by
  refine ⟨_,q47_.spec,?_⟩;unfold Acd
  split
  ·by_cases h1:16<t.Attrs.length
   ·rw [if_pos (by omega),if_pos h1]
   ·rw [if_neg (by omega),if_neg h1];by_cases h2:1000<t.Rows.length
    ·rw [if_pos (by omega),if_pos h2]
    ·rw [if_neg (by omega),if_neg h2];refine ⟨_,q32_.spec (by unfold Big;omega),?_⟩
     split
     ·exact rows (φ:=fun r=>r=Aed t.Attrs.length 0 t.Rows) (by omega) (by omega) rfl
     ·rfl
  ·rfl)
 rw [← h1];exact h2
end q33_
namespace q49_
theorem loop {φ:List Int->Prop}:∀ (n:Nat) (acc:List Int),n<2^32->acc.length+(Aan n).length<=1000->φ (acc++(Aan n).map fun (i:Nat)=>(i:Int))->L1 n acc φ:=by
 intro n
 induction n using Nat.strongRecOn with
 | _ n ih=>
  intro acc hn hl h;apply L1_step;by_cases h0:n=0
  ·subst h0;rw [Axa] at h;rw [if_pos (by omega)];simpa using h
  ·rw [if_neg (by omega)];rw [Ax9 h0 hn] at hl h;simp only [List.length_cons] at hl;refine ⟨by omega,by omega,?_⟩;have e1:IntKind.wrap .u32 ((n:Int)-1)=((n-1:Nat):Int):=by
    have:(n:Int)-1=((n-1:Nat):Int):=by omega
    rw [this];exact Afa (k:=.u32) (by simp only [top];omega)
   rw [e1,Apj (k:=.u32) (by simpa [top] using hn) (by simp only [top];omega)];refine ih _ (Bcx h0) _ (Nat.lt_of_le_of_lt Nat.and_le_left hn) (by rw [List.length_append,List.length_singleton];omega) ?_;have e2:tz32 (n:Int)=((Ac2 n 32 0:Nat):Int):=by unfold tz32;rw [Int.toNat_natCast]
   rw [e2];simpa using h
theorem spec {n:Nat} (hn:n<2^32):C n ((Aan n).map fun (i:Nat)=>(i:Int)):=by
 obtain ⟨r,h1,h2⟩:=enter n (fun r=>r=(Aan n).map fun (i:Nat)=>(i:Int)) (loop n [] hn (by have:=Agh (n:=n);simp;omega) (by simp));rw [← h1];exact h2
end q49_
namespace q50_
theorem loop {k:Nat} {φ:Int->Prop} (h:φ (Ad2 k)):∀ (m i:Nat),i+m=min k 32->L1 k ((2^i-1:Nat):Int) i φ
 | 0,i,hi=>by
  apply L1_step;have e:((2^i-1:Nat):Int)=(Ad2 k:Int):=by unfold Ad2;rw [← hi,Nat.add_zero]
  rw [e]
  split
  ·rw [if_neg (by omega)];exact h
  ·exact h
 | m+1,i,hi=>by
  apply L1_step;rw [if_pos (by omega),if_pos (by omega)];refine ⟨by omega,?_⟩;have hp:2^(i+1)<=2^32:=Nat.pow_le_pow_right (by decide) (by omega);have h2:0<2^i:=Nat.pos_of_ne_zero (by simp);rw [Nat.pow_succ] at hp;rw [Awp (k:=.u32) (by simp only [top];omega),Ao6 (k:=.u32) (by simp only [top];omega) (by simp only [top];omega),Aa3 (by omega)];have e:(2^i-1) ||| 2^i=2^(i+1)-1:=by
   apply Nat.eq_of_testBit_eq;intro j;rw [Nat.testBit_or,Nat.testBit_two_pow_sub_one,Nat.testBit_two_pow,Nat.testBit_two_pow_sub_one];by_cases h1:j<i
   ·have:j<i+1:=by omega
    simp [h1,this]
   ·by_cases h3:i=j
    ·subst h3;simp
    ·have:¬ j<i+1:=by omega
     simp [h1,h3,this]
  rw [e];exact loop h m (i+1) (by omega)
theorem spec {k:Nat}:C k (Ad2 k):=by
 obtain ⟨r,h1,h2⟩:=enter k (fun r=>r=(Ad2 k:Int)) (loop (φ:=fun r=>r=(Ad2 k:Int)) rfl (min k 32) 0 (by omega));rw [← h1];exact h2
end q50_
namespace q56_
theorem spec {n i:Nat} (hn:n<2^32):C n i (n.testBit i):=by
 obtain ⟨r,h1,h2⟩:=enter n i (fun r=>r=n.testBit i) (by
  rw [if_pos (by omega)]
  split
  ·refine ⟨by omega,?_⟩;rw [Beq (k:=.u32) (by simpa [top] using hn) (by decide)];cases n.testBit i<;>rfl
  ·rw [Nat.testBit_lt_two_pow (Nat.lt_of_lt_of_le hn (Nat.pow_le_pow_right (by decide) (by omega)))])
 rw [← h1];exact h2
end q56_
end Go.Own

namespace Go.Own
theorem Ai5 {a b:Int}:cmpI a b=0↔a=b:=by
 unfold cmpI;repeat' split
 all_goals omega
theorem q51_.spec {a b:Int}:q51_.C a b (cmpI a b):=by
 obtain ⟨r,h1,h2⟩:=q51_.enter a b (fun r=>r=cmpI a b) (by
  unfold cmpI;repeat' split
  all_goals first | rfl | omega)
 rw [← h1];exact h2
def cmpL:List UInt8->List UInt8->Int
 | [],[]=>0
 | [],_::_=>-1
 | _::_,[]=>1
 | a::r,b::s=>if a=b then cmpL r s else cmpI (u8i a) (u8i b)
theorem Ata:∀ {a b:List UInt8},cmpL a b=0↔a=b
 | [],[]=>by simp [cmpL]
 | [],_::_=>by simp [cmpL]
 | _::_,[]=>by simp [cmpL]
 | a::r,b::s=>by
  simp only [cmpL]
  split
  ·rename_i h;subst h;rw [Ata];simp
  ·rename_i h;rw [Ai5,Al7];simp [h]
def cmpS (a b:ByteArray):Int:=cmpL a.toList b.toList
theorem Bd0:∀ {a b:List UInt8},(a=[]∨b=[])->cmpI a.length b.length=cmpL a b
 | [],[],_=>rfl
 | [],_::r,_=>by
  simp only [cmpL,cmpI,List.length_cons,List.length_nil];rw [if_pos (by omega)]
 | _::r,[],_=>by
  simp only [cmpL,cmpI,List.length_cons,List.length_nil];rw [if_neg (by omega),if_pos (by omega)]
 | _::_,_::_,h=>by simp at h
namespace q19_
theorem loop {a b:ByteArray} {φ:Int->Prop} (hn:a.toList.length<Big):∀ (r s:List UInt8) (k:Nat),a.toList.drop k=r->b.toList.drop k=s->k<=a.toList.length->k<=b.toList.length->φ (cmpL r s)->L1 a b k φ:=by
 have fin:∀ (r s:List UInt8) (k:Nat),a.toList.drop k=r->b.toList.drop k=s->k<=a.toList.length->k<=b.toList.length->(r=[]∨s=[])->φ (cmpL r s)->L2 a b φ:=by
  intro r s k hr hs hk hk2 h0 h;apply L2_step;refine ⟨_,q51_.spec,?_⟩;rw [Ac6,Ac6];have e:cmpI a.toList.length b.toList.length=cmpI r.length s.length:=by
   rw [← hr,← hs,List.length_drop,List.length_drop];unfold cmpI
   repeat' split
   all_goals omega
  rw [e,Bd0 h0];exact h
 intro r
 induction r with
 | nil=>
  intro s k hr hs hk hk2 h;apply L1_step;have:=Abs hr;rw [Ac6,if_neg (by omega)];exact fin _ _ k hr hs hk hk2 (.inl rfl) h
 | cons x r ih=>
  intro s k hr hs hk hk2 h;apply L1_step;have hlt:=Abt hr;rw [Ac6,if_pos (by omega),Ac6]
  match s,hs,h with
  | [],hs,h=>
   have:=Abs hs;rw [if_neg (by omega)];exact fin _ _ k hr hs hk hk2 (.inr rfl) h
  | y::s,hs,h=>
   have hlt2:=Abt hs;rw [if_pos (by omega)];refine ⟨x,Adu (Aax hr),y,Adu (Aax hs),?_⟩;simp only [cmpL] at h
   split
   ·rename_i he;rw [if_pos (Al7.1 he)] at h;rw [Aa3 (by unfold Big at hn;omega)];exact ih s (k+1) (Aao hr) (Aao hs) hlt hlt2 h
   ·rename_i he;rw [if_neg (fun hh=>he (Al7.2 hh))] at h;refine ⟨x,Adu (Aax hr),y,Adu (Aax hs),_,q51_.spec,?_⟩;have b1:=Awu (b:=x);have b2:=Awu (b:=y);rw [Alb (by omega) (by omega),Alb (by omega) (by omega)];exact h
theorem spec {a b:ByteArray} (hn:a.toList.length<Big):C a b (cmpS a b):=by
 obtain ⟨r,h1,h2⟩:=enter a b (fun r=>r=cmpS a b) (loop hn a.toList b.toList 0 rfl rfl (by omega) (by omega) rfl);rw [← h1];exact h2
end q19_
def cmpV (v w:api_Value):Int:=if cmpI v.Kind w.Kind=0 then (if cmpI v.Num w.Num=0 then cmpS v.Str w.Str else cmpI v.Num w.Num) else cmpI v.Kind w.Kind
theorem Atb {v w:api_Value}:cmpV v w=0↔v=w:=by
 obtain ⟨k,n,s⟩:=v;obtain ⟨k',n',s'⟩:=w;unfold cmpV cmpS;simp only [api_Value.mk.injEq]
 split
 ·rename_i h1;rw [Ai5] at h1
  split
  ·rename_i h2;rw [Ai5] at h2;rw [Ata,Aj0];simp [h1,h2]
  ·rename_i h2;have h3:=h2;rw [Ai5] at h3;simp [h2,h3]
 ·rename_i h1;have h3:=h1;rw [Ai5] at h3;simp [h1,h3]
theorem q20_.spec {v w:api_Value} (hn:v.Str.toList.length<Big):q20_.C v w (cmpV v w):=by
 obtain ⟨r,h1,h2⟩:=q20_.enter v w (fun r=>r=cmpV v w) (by
  refine ⟨_,q51_.spec,?_⟩;unfold cmpV
  split
  ·refine ⟨_,q51_.spec,?_⟩
   split
   ·exact ⟨_,q19_.spec hn,rfl⟩
   ·rfl
  ·rfl)
 rw [← h1];exact h2
def Ayt (l:List api_Value):Prop:=l.length<Big/\∀ v∈l,v.Str.toList.length<Big
def Ae9:List api_Value->List api_Value->Int
 | [],[]=>0
 | [],_::_=>-1
 | _::_,[]=>1
 | a::r,b::s=>if cmpV a b=0 then Ae9 r s else cmpV a b
theorem All:∀ {a b:List api_Value},Ae9 a b=0↔a=b
 | [],[]=>by simp [Ae9]
 | [],_::_=>by simp [Ae9]
 | _::_,[]=>by simp [Ae9]
 | a::r,b::s=>by
  simp only [Ae9]
  split
  ·rename_i h;rw [All];rw [Atb] at h;simp [h]
  ·rename_i h;have h2:=h;rw [Atb] at h2;simp [h,h2]
theorem Bb2:∀ {a b:List api_Value},(a=[]∨b=[])->cmpI a.length b.length=Ae9 a b
 | [],[],_=>rfl
 | [],_::r,_=>by
  simp only [Ae9,cmpI,List.length_cons,List.length_nil];rw [if_pos (by omega)]
 | _::r,[],_=>by
  simp only [Ae9,cmpI,List.length_cons,List.length_nil];rw [if_neg (by omega),if_pos (by omega)]
 | _::_,_::_,h=>by simp at h
namespace q34_
theorem loop {a b:List api_Value} {φ:Int->Prop} (hn:Ayt a):∀ (r s:List api_Value) (k:Nat),a.drop k=r->b.drop k=s->k<=a.length->k<=b.length->φ (Ae9 r s)->L1 a b k φ:=by
 have fin:∀ (r s:List api_Value) (k:Nat),a.drop k=r->b.drop k=s->k<=a.length->k<=b.length->(r=[]∨s=[])->φ (Ae9 r s)->L2 a b φ:=by
  intro r s k hr hs hk hk2 h0 h;apply L2_step;refine ⟨_,q51_.spec,?_⟩;have e:cmpI a.length b.length=cmpI r.length s.length:=by
   rw [← hr,← hs,List.length_drop,List.length_drop];unfold cmpI
   repeat' split
   all_goals omega
  rw [e,Bb2 h0];exact h
 intro r
 induction r with
 | nil=>
  intro s k hr hs hk hk2 h;apply L1_step;have:=Abs hr;rw [if_neg (by omega)];exact fin _ _ k hr hs hk hk2 (.inl rfl) h
 | cons x r ih=>
  intro s k hr hs hk hk2 h;apply L1_step;have hlt:=Abt hr;rw [if_pos (by omega)]
  match s,hs,h with
  | [],hs,h=>
   have:=Abs hs;rw [if_neg (by omega)];exact fin _ _ k hr hs hk hk2 (.inr rfl) h
  | y::s,hs,h=>
   have hlt2:=Abt hs;rw [if_pos (by omega)];refine ⟨x,Acs hr,y,Acs hs,_,q20_.spec (hn.2 x (List.mem_of_getElem? (Aax hr))),?_⟩;simp only [Ae9] at h
   split
   ·rename_i he;rw [if_pos he] at h;rw [Aa3 (by have:=hn.1;unfold Big at this;omega)];exact ih s (k+1) (Aao hr) (Aao hs) hlt hlt2 h
   ·rename_i he;rw [if_neg he] at h;exact h
theorem spec {a b:List api_Value} (hn:Ayt a):C a b (Ae9 a b):=by
 obtain ⟨r,h1,h2⟩:=enter a b (fun r=>r=Ae9 a b) (loop hn a b 0 rfl rfl (by omega) (by omega) rfl);rw [← h1];exact h2
end q34_
theorem q52_.spec {a b:List api_Value} (hn:Ayt a):q52_.C a b (decide (a=b)):=by
 obtain ⟨r,h1,h2⟩:=q52_.enter a b (fun r=>r=decide (a=b)) ⟨_,q34_.spec hn,by
  by_cases h:a=b
  ·simp [h,All.2 rfl]
  ·have:Ae9 a b≠0:=fun hh=>h (All.1 hh)
   simp [h,this]⟩
 rw [← h1];exact h2
def be:Nat->Nat->List Int
 | 0,_=>[]
 | j+1,u=>((u / 2^(8*j) % 256:Nat):Int)::be j u
theorem Aqa:∀ {j u},(be j u).length=j
 | 0,_=>rfl
 | j+1,u=>by simp [be,Aqa]
theorem Avc:∀ {j u},∀ x∈be j u,0<=x/\x<256
 | 0,_,_,h=>by simp [be] at h
 | j+1,u,x,h=>by
  simp only [be,List.mem_cons] at h;rcases h with rfl | h
  ·omega
  ·exact Avc x h
theorem Bat:∀ {j u v},be j u=be j v->u % 2^(8*j)=v % 2^(8*j)
 | 0,u,v,_=>by simp [Nat.mod_one]
 | j+1,u,v,h=>by
  simp only [be,List.cons.injEq] at h;have ih:=Bat h.2;have e:2^(8*(j+1))=2^(8*j)*256:=by rw [Nat.mul_add,Nat.pow_add]
  rw [e,Nat.mod_mul,Nat.mod_mul,ih];have:u / 2^(8*j) % 256=v / 2^(8*j) % 256:=by omega
  rw [this]
def Ago (n:Int):Nat:=(n % 18446744073709551616).toNat ^^^ 9223372036854775808
theorem Amx {n:Int}:Ago n<2^64:=Nat.xor_lt_two_pow (by omega) (by decide)
theorem Aza {m n:Int} (hm : -9223372036854775808<=m/\m<9223372036854775808) (hn : -9223372036854775808<=n/\n<9223372036854775808) (h:Ago m=Ago n):m=n:=by
 unfold Ago at h;have h2:(m % 18446744073709551616).toNat=(n % 18446744073709551616).toNat:=by
  have:=congrArg (· ^^^ 9223372036854775808) h;simpa [Nat.xor_assoc] using this
 omega
namespace q64_
theorem loop {φ:List Int->Prop} {u:Nat} (hu:u<2^64):∀ (j:Nat) (acc:List Int),j<=8->acc.length+j<=1000->φ (acc++be j u)->L1 acc u (8*(j:Int)-8) φ
 | 0,acc,hj,hl,h=>by
  apply L1_step;rw [if_neg (by omega)];simpa [be] using h
 | j+1,acc,hj,hl,h=>by
  apply L1_step;rw [if_pos (by omega)];refine ⟨by omega,by omega,?_⟩;have e1:8*((j+1:Nat):Int)-8=((8*j:Nat):Int):=by omega
  rw [e1,Ajh (k:=.u64) (by simpa [top] using hu),IntKind.wrap_u8,Alb (by omega) (by omega)];have e2:((8*j:Nat):Int)-8=8*(j:Int)-8:=by omega
  rw [e2];refine loop hu j _ (by omega) (by simp;omega) ?_;have e3:((u / 2^(8*j):Nat):Int) % 256=((u / 2^(8*j) % 256:Nat):Int):=by omega
  rw [e3];simpa [be] using h
theorem spec {n:Int} {acc:List Int} (hl:acc.length<=900):C n acc (acc++be 8 (Ago n)):=by
 obtain ⟨r,h1,h2⟩:=enter n acc (fun r=>r=acc++be 8 (Ago n)) (by
  have e:bXor .u64 (IntKind.wrap .u64 n) 9223372036854775808=(Ago n:Int):=by
   have e1:IntKind.wrap .u64 n=(((n % 18446744073709551616).toNat:Nat):Int):=by
    simp only [IntKind.wrap,IntKind.bits,IntKind.signed];simp;omega
   rw [e1];exact Bcs (k:=.u64) (b:=9223372036854775808) (by simp only [top];omega) (by simp only [top];omega)
  rw [e]
  exact loop Amx 8 acc (by omega) (by omega) rfl)
 rw [← h1];exact h2
end q64_
def esc:List UInt8->List Int
 | []=>[]
 | b::r=>if u8i b=0 then 0::255::esc r else u8i b::esc r
theorem Bd4 {l:List UInt8} {b:UInt8}:esc (l++[b])=esc l++esc [b]:=by
 induction l with
 | nil=>rfl
 | cons a l ih=>simp only [List.cons_append,esc,ih];split<;>rfl
theorem Ajx:∀ {l:List UInt8},∀ x∈esc l,0<=x/\x<256
 | [],x,h=>by simp [esc] at h
 | b::r,x,h=>by
  simp only [esc] at h
  split at h
  ·simp only [List.mem_cons] at h;rcases h with rfl | rfl | h
   ·omega
   ·omega
   ·exact Ajx x h
  ·simp only [List.mem_cons] at h;rcases h with rfl | h
   ·exact Awu
   ·exact Ajx x h
theorem Ao9:∀ {l:List UInt8},(esc l).length<=2*l.length
 | []=>by simp [esc]
 | b::r=>by
  have:=Ao9 (l:=r);simp only [esc]
  split<;>simp only [List.length_cons]<;>omega
theorem As9:∀ {a b:List UInt8} {r s:List Int},esc a++(0::1::r)=esc b++(0::1::s)->a=b/\r=s
 | [],[],r,s,h=>by simpa [esc] using h
 | [],y::b,r,s,h=>by
  simp only [esc] at h
  split at h
  ·simp at h
  ·rename_i hy;simp only [List.nil_append,List.cons_append,List.cons.injEq] at h;exact absurd h.1.symm hy
 | x::a,[],r,s,h=>by
  simp only [esc] at h
  split at h
  ·simp at h
  ·rename_i hx;simp only [List.nil_append,List.cons_append,List.cons.injEq] at h;exact absurd h.1 hx
 | x::a,y::b,r,s,h=>by
  simp only [esc] at h
  split at h
  ·rename_i hx
   split at h
   ·rename_i hy;simp only [List.cons_append,List.cons.injEq,true_and] at h;obtain ⟨h1,h2⟩:=As9 h;exact ⟨by rw [h1,Al7.1 (hx.trans hy.symm)],h2⟩
   ·rename_i hy;simp only [List.cons_append,List.cons.injEq] at h;exact absurd h.1.symm hy
  ·rename_i hx
   split at h
   ·rename_i hy;simp only [List.cons_append,List.cons.injEq] at h;exact absurd h.1 hx
   ·rename_i hy;simp only [List.cons_append,List.cons.injEq] at h;obtain ⟨h1,h2⟩:=As9 h.2;exact ⟨by rw [h1,Al7.1 h.1],h2⟩
def keyJ (v:api_Value):List Int:=v.Kind::(if v.Kind=1∨v.Kind=3 then be 8 (Ago v.Num) else if v.Kind=2 then esc v.Str.toList++[0,1] else [])
def Ajo (v:api_Value):Prop:=-9223372036854775808<=v.Num/\v.Num<9223372036854775808
theorem Ae1 {v:api_Value} (h:Aap v=true):v.Kind=0/\v.Num=0/\v.Str.toList=[]∨v.Kind=1/\v.Str.toList=[]∨v.Kind=2/\v.Num=0/\v.Str.toList.length<=200∨v.Kind=3/\1<=v.Num/\v.Str.toList=[]:=by
 simpa [Aap] using h
theorem Aqx {v:api_Value} (h:Aap v=true):∀ x∈keyJ v,0<=x/\x<256:=by
 intro x hx;have hk:0<=v.Kind/\v.Kind<=3:=by rcases Ae1 h with h | h | h | h<;>omega
 simp only [keyJ,List.mem_cons] at hx;rcases hx with rfl | hx
 ·omega
 ·split at hx
  ·exact Avc x hx
  ·split at hx
   ·rcases List.mem_append.1 hx with hx | hx
    ·exact Ajx x hx
    ·simp at hx;rcases hx with rfl | rfl<;>omega
   ·simp at hx
theorem Alw {v:api_Value} (h:Aap v=true):(keyJ v).length<=403:=by
 simp only [keyJ,List.length_cons]
 split
 ·rw [Aqa];omega
 ·split
  ·have:=Ao9 (l:=v.Str.toList);have:v.Str.toList.length<=200:=by
    rcases Ae1 h with h | h | h | h
    ·rw [h.2.2];simp
    ·rw [h.2];simp
    ·exact h.2.2
    ·rw [h.2.2];simp
   simp;omega
  ·simp
theorem Bdg {v w:api_Value} {r s:List Int} (hv:Aap v=true) (hw:Aap w=true) (nv:Ajo v) (nw:Ajo w) (h:keyJ v++r=keyJ w++s):v=w/\r=s:=by
 obtain ⟨k,n,t⟩:=v;obtain ⟨k',n',t'⟩:=w;simp only [keyJ,List.cons_append,List.cons.injEq] at h;obtain ⟨rfl,h⟩:=h;have hv:=Ae1 hv;have hw:=Ae1 hw;simp only at hv hw;simp only [api_Value.mk.injEq,true_and];by_cases h1:k=1∨k=3
 ·rw [if_pos h1,if_pos h1] at h;have h3:=List.append_inj h (by rw [Aqa,Aqa]);have h2:=Bat h3.1;rw [Nat.mod_eq_of_lt Amx,Nat.mod_eq_of_lt Amx] at h2;have e:=Aza nv nw h2;simp only at e;refine ⟨⟨e,?_⟩,h3.2⟩;rw [← Aj0];have a1:t.toList=[]:=by rcases hv with h | h | h | h<;>first | exact h.2.2 | exact h.2 | omega
  have a2:t'.toList=[]:=by rcases hw with h | h | h | h<;>first | exact h.2.2 | exact h.2 | omega
  rw [a1,a2]
 ·rw [if_neg h1,if_neg h1] at h;by_cases h2:k=2
  ·rw [if_pos h2,if_pos h2,List.append_assoc,List.append_assoc] at h;obtain ⟨e1,e2⟩:=As9 h;rw [Aj0] at e1;exact ⟨⟨by omega,e1⟩,e2⟩
  ·rw [if_neg h2,if_neg h2] at h;have a1:t.toList=[]:=by rcases hv with h | h | h | h<;>first | exact h.2.2 | exact h.2 | omega
   have a2:t'.toList=[]:=by rcases hw with h | h | h | h<;>first | exact h.2.2 | exact h.2 | omega
   exact ⟨⟨by omega,by rw [← Aj0,a1,a2]⟩,by simpa using h⟩
def keyW (v:api_Value):ByteArray:=Aju (keyJ v)
namespace q72_
theorem loop {v:api_Value} {φ:ByteArray×Int->Prop} (hk:v.Kind=2) (hs:v.Str.toList.length<=200) (h:φ (keyW v,0)):∀ (r:List UInt8) (k:Nat),v.Str.toList.drop k=r->k<=v.Str.toList.length->L1 v (2::esc (v.Str.toList.take k)) k φ:=by
 intro r
 induction r with
 | nil=>
  intro k hd hk2;apply L1_step;have:=Abs hd;rw [Ac6,if_neg (by omega),List.take_of_length_le this];have hl:=Ao9 (l:=v.Str.toList);have e:keyJ v=(2::esc v.Str.toList)++[0,1]:=by simp [keyJ,hk]
  refine ⟨by simp only [List.length_cons];omega,fun x hx=>?_,?_⟩
  ·rcases List.mem_append.1 hx with hx | hx
   ·rcases List.mem_cons.1 hx with rfl | hx
    ·omega
    ·exact Ajx x hx
   ·simp at hx;rcases hx with rfl | rfl<;>omega
  ·rw [← e];exact h
 | cons b r ih=>
  intro k hd hk2;have hlt:=Abt hd;apply L1_step;rw [Ac6,if_pos (by omega)];have hl:=Ao9 (l:=v.Str.toList.take k);rw [List.length_take] at hl;refine ⟨b,Adu (Aax hd),by simp only [List.length_cons];omega,b,Adu (Aax hd),?_⟩;have ih:=ih (k+1) (Aao hd) hlt;have e:v.Str.toList.take (k+1)=v.Str.toList.take k++[b]:=by rw [List.take_add_one,Aax hd];rfl
  rw [e,Bd4] at ih;have next:∀ l,l=2::(esc (v.Str.toList.take k)++esc [b])->L4 v l k φ:=by
   rintro _ rfl;apply L4_step;rw [Aa3 (by omega)];exact ih
  split
  ·rename_i h0;refine ⟨by simp only [List.length_append,List.length_cons,List.length_nil];omega,next _ ?_⟩;simp [esc,h0]
  ·rename_i h0;exact next _ (by simp [esc,h0])
theorem spec {v:api_Value} (hv:Aap v=true):C v (keyW v,0):=by
 obtain ⟨r,h1,h2⟩:=enter v (fun r=>r=(keyW v,0)) (by
  refine ⟨_,q68_.spec,?_⟩;rw [if_pos hv];have hc:=Ae1 hv;have hk:0<=v.Kind/\v.Kind<=3:=by rcases hc with h | h | h | h<;>omega
  have ek:IntKind.wrap .u8 v.Kind=v.Kind:=by rw [IntKind.wrap_u8];omega
  have two:∀ b,(v.Kind=1∨v.Kind=3)->L2 v b fun r=>r=(keyW v,0):=by
   intro b hb;apply L2_step;rw [ek];have e:keyJ v=[v.Kind]++be 8 (Ago v.Num):=by simp [keyJ,hb]
   refine ⟨_,q64_.spec (by simp),?_,?_⟩
   ·rw [← e];exact Aqx hv
   ·rw [← e];rfl
  have three:¬ (v.Kind=1∨v.Kind=3)->L3 v fun r=>r=(keyW v,0):=by
   intro hb;apply L3_step;rw [ek]
   split
   ·rename_i h2;have hs:v.Str.toList.length<=200:=by
     rcases hc with h | h | h | h
     ·omega
     ·omega
     ·exact h.2.2
     ·omega
    have:=loop (φ:=fun r=>r=(keyW v,0)) h2 hs rfl v.Str.toList 0 rfl (by omega);rw [h2];simpa [esc] using this
   ·rename_i h2;refine ⟨fun x hx=>by simp at hx;omega,?_⟩;simp [keyW,keyJ,hb,h2]
  split
  ·rename_i h1;exact two _ (.inl h1)
  ·rename_i h1
   split
   ·rename_i h3;exact two _ (.inr h3)
   ·rename_i h3;exact three (by omega))
 rw [← h1];exact h2
end q72_
def b8 (x:Int):UInt8:=UInt8.ofNat x.toNat
theorem Bha {x y:Int} (hx:0<=x/\x<256) (hy:0<=y/\y<256) (h:b8 x=b8 y):x=y:=by
 unfold b8 at h;have:=congrArg UInt8.toNat h;simp at this;omega
theorem Ar7:∀ {l m:List Int},(∀ x∈l,0<=x/\x<256)->(∀ x∈m,0<=x/\x<256)->l.map b8=m.map b8->l=m
 | [],[],_,_,_=>rfl
 | [],_::_,_,_,h=>by simp at h
 | _::_,[],_,_,h=>by simp at h
 | x::l,y::m,h1,h2,h=>by
  simp only [List.map_cons,List.cons.injEq] at h;rw [Bha (h1 x (by simp)) (h2 y (by simp)) h.1,Ar7 (fun z hz=>h1 z (by simp [hz])) (fun z hz=>h2 z (by simp [hz])) h.2]
theorem Atu {v:api_Value}:(keyW v).data.toList=(keyJ v).map b8:=by
 unfold keyW Aju b8;simp
theorem Atv {v:api_Value}:(keyW v).size=(keyJ v).length:=by
 have:(keyW v).size=(keyW v).data.toList.length:=rfl;rw [this,Atu,List.length_map]
def Acm (l:List api_Value):List Int:=l.flatMap keyJ
theorem Ap1 {l:List api_Value} (h:∀ v∈l,Aap v=true):∀ x∈Acm l,0<=x/\x<256:=by
 intro x hx;obtain ⟨v,hv,hx⟩:=List.mem_flatMap.1 hx;exact Aqx (h v hv) x hx
theorem Atw:∀ {l m:List api_Value},l.length=m.length->(∀ v∈l,Aap v=true/\Ajo v)->(∀ v∈m,Aap v=true/\Ajo v)->Acm l=Acm m->l=m
 | [],[],_,_,_,_=>rfl
 | [],_::_,h,_,_,_=>by simp at h
 | _::_,[],h,_,_,_=>by simp at h
 | v::l,w::m,hl,h1,h2,h=>by
  simp only [Acm,List.flatMap_cons] at h;have a:=h1 v (by simp);have b:=h2 w (by simp);obtain ⟨e1,e2⟩:=Bdg a.1 b.1 a.2 b.2 h;rw [e1,Atw (by simpa using hl) (fun z hz=>h1 z (by simp [hz])) (fun z hz=>h2 z (by simp [hz])) e2]
def Aav (l:List api_Value):ByteArray:=bstr ((Acm l).map b8)
theorem An2 {l m:List api_Value} (hl:l.length=m.length) (h1:∀ v∈l,Aap v=true/\Ajo v) (h2:∀ v∈m,Aap v=true/\Ajo v):Aav l=Aav m↔l=m:=by
 constructor
 ·intro h;have h3:(Acm l).map b8=(Acm m).map b8:=by
   have:=congrArg ByteArray.toList h;unfold Aav at this
   rwa [As4,As4] at this
  exact Atw hl h1 h2 (Ar7 (Ap1 fun v hv=>(h1 v hv).1) (Ap1 fun v hv=>(h2 v hv).1) h3)
 ·rintro rfl;rfl
def pick (l:List api_Value) (n:Nat):List api_Value:=(Aan n).filterMap fun i=>l[i]?
theorem Avq {α β:Type} {f g:α->Option β}:∀ {l:List α},(∀ a∈l,f a=g a)->l.filterMap f=l.filterMap g
 | [],_=>rfl
 | a::l,h=>by
  have ih:=Avq (l:=l) fun b hb=>h b (by simp [hb]);simp only [List.filterMap_cons,h a (by simp),ih]
theorem Bau {n k:Nat} (hn:n<2^32):(Aan n).filter (fun i=>decide (i<k+1))=(Aan n).filter (fun i=>decide (i<k))++if n.testBit k=true then [k] else []:=by
 refine Arp (Aft.filter _) ?_ fun x=>?_
 ·rw [List.pairwise_append];refine ⟨Aft.filter _,by split<;>simp,fun a ha b hb=>?_⟩;have ha:=(List.mem_filter.1 ha).2
  split at hb
  ·simp at hb ha;omega
  ·simp at hb
 ·simp only [List.mem_filter,List.mem_append,decide_eq_true_eq]
  split
  ·rename_i h;rw [List.mem_singleton];constructor
   ·rintro ⟨h1,h2⟩;by_cases hx:x<k
    ·exact .inl ⟨h1,hx⟩
    ·exact .inr (by omega)
   ·rintro (⟨h1,h2⟩ | rfl)
    ·exact ⟨h1,by omega⟩
    ·exact ⟨(Aci hn).2 h,by omega⟩
  ·rename_i h;constructor
   ·rintro ⟨h1,h2⟩;have:x≠k:=fun e=>h (e ▸ (Aci hn).1 h1);exact .inl ⟨h1,by omega⟩
   ·rintro (⟨h1,h2⟩ | h1)
    ·exact ⟨h1,by omega⟩
    ·simp at h1
namespace q26_
theorem spec {r:api_Row} {n:Nat} (hn:n<2^32) (hr:r.Values.length<=1000):C r n (pick r.Values n):=by
 obtain ⟨q,h1,h2⟩:=enter r n (fun q=>q=pick r.Values n) (by
  have loop:∀ k,k<=r.Values.length->L1 r n (((Aan n).filter fun i=>decide (i<k)).filterMap fun i=>r.Values[i]?) k fun q=>q=pick r.Values n:=by
   refine down ?_ ?_
   ·apply L1_step;rw [if_neg (by omega)];unfold pick;rw [List.filterMap_filter];refine Avq fun i hi=>?_;by_cases h:i<r.Values.length
    ·simp [h]
    ·simp [h]
   ·intro k hk h;apply L1_step;rw [if_pos (by omega)];have hget:=List.getElem?_eq_getElem hk;have hlen:(((Aan n).filter fun i=>decide (i<k)).filterMap fun i=>r.Values[i]?).length<=32:=
     Nat.le_trans (List.length_filterMap_le _ _) (Nat.le_trans (List.length_filter_le _ _) Agh)
    rw [Bau hn,List.filterMap_append] at h;refine ⟨_,q56_.spec hn,?_⟩;have next:∀ l,l=(((Aan n).filter fun i=>decide (i<k)).filterMap fun i=>r.Values[i]?)++((if n.testBit k=true then [k] else []).filterMap fun i=>r.Values[i]?)->L2 r n l k fun q=>q=pick r.Values n:=by
     rintro _ rfl;apply L2_step;rw [Aa3 (by omega)];exact h
    split
    ·rename_i hb;exact ⟨r.Values[k],Ab2 hget,by omega,next _ (by simp [hb,hget])⟩
    ·rename_i hb;exact next _ (by simp [hb])
  have:=loop 0 (Nat.zero_le _);have e:(Aan n).filter (fun i=>decide (i<0))=[]:=by rw [List.filter_eq_nil_iff];simp
  rw [e] at this
  exact this)
 rw [← h1];exact h2
end q26_
def Aef (a b:List api_Value) (n:Nat):Bool:=decide (pick a n=pick b n)
theorem Bef {a b:List api_Value} (hl:a.length=b.length):∀ {l:List Nat},(l.filterMap fun i=>a[i]?)=(l.filterMap fun i=>b[i]?)↔∀ i∈l,a[i]? = b[i]?
 | []=>by simp
 | k::l=>by
  have ih:=Bef (a:=a) (b:=b) hl (l:=l);by_cases h:k<a.length
  ·have e1:=List.getElem?_eq_getElem h;have e2:=List.getElem?_eq_getElem (l:=b) (i:=k) (by omega);simp only [List.filterMap_cons,e1,e2,List.cons.injEq,ih,List.forall_mem_cons,zJ]
  ·have e1:a[k]? = none:=List.getElem?_eq_none (by omega);have e2:b[k]? = none:=List.getElem?_eq_none (by omega);simp only [List.filterMap_cons,e1,e2,ih,List.forall_mem_cons,true_and]
theorem Bao {a b:List api_Value} {n:Nat} (hn:n<2^32) (hl:a.length=b.length):Aef a b n=true↔∀ i,n.testBit i=true->a[i]? = b[i]?:=by
 unfold Aef pick;rw [decide_eq_true_iff,Bef hl];constructor
 ·exact fun h i hi=>h i ((Aci hn).2 hi)
 ·exact fun h i hi=>h i ((Aci hn).1 hi)
theorem Af4 {l:List api_Value} {n:Nat}:∀ v∈pick l n,v∈l:=by
 intro v hv;obtain ⟨i,_,hi⟩:=List.mem_filterMap.1 hv;exact List.mem_of_getElem? hi
theorem Awk {l:List api_Value} {n:Nat}:(pick l n).length<=32:=Nat.le_trans (List.length_filterMap_le _ _) Agh
theorem q35_.spec {a b:api_Row} {n:Nat} (hn:n<2^32) (ha:a.Values.length<=1000) (hb:b.Values.length<=1000) (hs:∀ v∈a.Values,v.Str.toList.length<Big):q35_.C a b n (Aef a.Values b.Values n):=by
 obtain ⟨q,h1,h2⟩:=q35_.enter a b n (fun q=>q=Aef a.Values b.Values n)
  ⟨_,q26_.spec hn ha,_,q26_.spec hn hb,_,q52_.spec ⟨by have:=Awk (l:=a.Values) (n:=n);unfold Big;omega,fun v hv=>hs v (Af4 v hv)⟩,rfl⟩
 rw [← h1];exact h2
structure TV (t:api_Table):Prop where
 name:Ahx t.Name=true
 na:t.Attrs.length<=16
 nr:t.Rows.length<=1000
 names:Af3 t.Attrs=true
 rows:Aed t.Attrs.length 0 t.Rows=0
theorem Afj {t:api_Table}:Acd t=0↔TV t:=by
 unfold Acd;constructor
 ·intro h
  split at h
  ·split at h
   ·cases h
   ·split at h
    ·cases h
    ·split at h
     ·rename_i h1 h2 h3 h4;exact ⟨h1,by omega,by omega,h4,h⟩
     ·cases h
  ·cases h
 ·intro h;rw [if_pos h.name,if_neg (by have:=h.na;omega),if_neg (by have:=h.nr;omega),if_pos h.names];exact h.rows
theorem Anl {n:Nat}:∀ {l:List api_Row} {last:Int},Aed n last l=0->∀ r∈l,r.Values.length=n/\(∀ v∈r.Values,Aap v=true)/\last<r.ID
 | [],_,_,r,hr=>by cases hr
 | a::l,last,h,r,hr=>by
  simp only [Aed] at h
  split at h
  ·cases h
  ·split at h
   ·split at h
    ·rename_i h1 h2 h3;unfold Adk at h3;rw [List.all_eq_true] at h3;rcases List.mem_cons.1 hr with rfl | hr
     ·exact ⟨h2,h3,by omega⟩
     ·obtain ⟨e1,e2,e3⟩:=Anl h r hr;exact ⟨e1,e2,by omega⟩
    ·cases h
   ·cases h
theorem TV.len {t:api_Table} (h:TV t) {r:api_Row} (hr:r∈t.Rows):r.Values.length=t.Attrs.length:=(Anl h.rows r hr).1
theorem TV.val {t:api_Table} (h:TV t) {r:api_Row} (hr:r∈t.Rows):∀ v∈r.Values,Aap v=true:=(Anl h.rows r hr).2.1
theorem Auf {v:api_Value} (h:Aap v=true):v.Str.toList.length<=200:=by
 rcases Ae1 h with h | h | h | h
 ·rw [h.2.2];simp
 ·rw [h.2];simp
 ·exact h.2.2
 ·rw [h.2.2];simp
def TNum (t:api_Table):Prop:=∀ r∈t.Rows,∀ v∈r.Values,Ajo v
def Ad3 (t:api_Table) (n:Nat):List (List api_Value):=t.Rows.map fun r=>pick r.Values n
theorem Af5 {t:api_Table} {n:Nat}:(Ad3 t n).length=t.Rows.length:=by simp [Ad3]
theorem Bdz {t:api_Table} (ht:TV t) {n i j:Nat} (hn:n<2^32) (hi:i<t.Rows.length) (hj:j<t.Rows.length):(Ad3 t n)[i]? = (Ad3 t n)[j]?↔∀ k,n.testBit k=true->(t.Rows[i]'hi).Values[k]? = (t.Rows[j]'hj).Values[k]?:=by
 unfold Ad3;rw [List.getElem?_map,List.getElem?_map,List.getElem?_eq_getElem hi,List.getElem?_eq_getElem hj];simp only [Option.map_some,zJ];rw [← Bao hn (by rw [ht.len (List.getElem_mem hi),ht.len (List.getElem_mem hj)])];unfold Aef;rw [decide_eq_true_iff]
def OkP (t:api_Table) (l r i k:Nat):Prop:=(Ad3 t l)[i]? = (Ad3 t l)[k]?->(Ad3 t r)[i]? = (Ad3 t r)[k]?
def SatP (t:api_Table) (l r:Nat):Prop:=∀ i k,i<t.Rows.length->k<i->OkP t l r i k
theorem SatP.all {t:api_Table} {l r:Nat} (h:SatP t l r) {i k:Nat} (hi:i<t.Rows.length) (hk:k<t.Rows.length):OkP t l r i k:=by
 rcases Nat.lt_trichotomy i k with h1 | h1 | h1
 ·exact fun e=>(h k i hk h1 e.symm).symm
 ·subst h1;exact fun _=>rfl
 ·exact h i k hi h1
theorem agr {t:api_Table} {n i k:Nat} (hi:i<t.Rows.length) (hk:k<t.Rows.length):Aef (t.Rows[i]).Values (t.Rows[k]).Values n=true↔(Ad3 t n)[i]? = (Ad3 t n)[k]?:=by
 unfold Ad3 Aef;rw [List.getElem?_map,List.getElem?_map,List.getElem?_eq_getElem hi,List.getElem?_eq_getElem hk];simp
def EqA (t:api_Table) (i k a:Nat):Prop:=(t.Rows[i]?.map fun r=>r.Values[a]?)=(t.Rows[k]?.map fun r=>r.Values[a]?)
instance (t:api_Table) (i k a:Nat):Decidable (EqA t i k a):=by unfold EqA;infer_instance
theorem Awj {t:api_Table} (ht:TV t) {n i j:Nat} (hn:n<2^32) (hi:i<t.Rows.length) (hj:j<t.Rows.length):(Ad3 t n)[i]? = (Ad3 t n)[j]?↔∀ k,n.testBit k=true->EqA t i j k:=by
 rw [Bdz ht hn hi hj];unfold EqA;rw [List.getElem?_eq_getElem hi,List.getElem?_eq_getElem hj];simp only [Option.map_some,zJ]
theorem q57_.spec {a b:Nat} (ha:a<2^32) (hb:b<2^32):q57_.C a b (decide (a &&& b=a)):=by
 obtain ⟨r,h1,h2⟩:=q57_.enter a b (fun r=>r=decide (a &&& b=a)) (by
  rw [Apj (k:=.u32) (by simpa [top] using ha) (by simpa [top] using hb)];by_cases h:a &&& b=a
  ·simp [h]
  ·have:¬ ((a &&& b:Nat):Int)=(a:Int):=by omega
   simp [h,this])
 rw [← h1];exact h2
def FdOK (l:List api_FD):Prop:=∀ d∈l,U32 d.Lhs/\U32 d.Rhs
def inU (n:Nat) (l r:Int):Bool:=decide (sN l<2^n)&&decide (sN r<2^n)
theorem Beg {n:Nat} {l r:Int} (hl:U32 l) (hr:U32 r):(shrw .u32 (bOr .u32 l r) (n:Int)=0)↔inU n l r=true:=by
 rw [hl.eq,hr.eq,Ao6 hl.top hr.top,Ajh (Nat.or_lt_two_pow hl.top hr.top)];unfold inU;rw [Bool.and_eq_true,decide_eq_true_iff,decide_eq_true_iff];have e1:sN (sN l:Int)=sN l:=by unfold sN;omega
 have e2:sN (sN r:Int)=sN r:=by unfold sN;omega
 rw [e1,e2,← Azv,← Bd1];omega
theorem Be8 {a n:Nat} (ha:a<2^32) (hn:n<=32):(a &&& Ad2 n=a)↔a<2^n:=by
 rw [Bh0,Bja];constructor
 ·intro h i hi;have:=h i hi;rw [Ajz,decide_eq_true_iff] at this;omega
 ·intro h i hi;rw [Ajz,decide_eq_true_iff];have:=h i hi;omega
theorem Awt {n:Nat} {x:Int} (hn:n<=32) (hx:U32 x):q57_.C x (Ad2 n) (decide (sN x<2^n)):=by
 have:=q57_.spec (a:=sN x) (b:=Ad2 n) hx.lt Avv;rw [← hx.eq] at this;have e:decide (sN x &&& Ad2 n=sN x)=decide (sN x<2^n):=by rw [decide_eq_decide];exact Be8 hx.lt hn
 rw [e] at this;exact this
def fdsE (n:Int) (l:List api_FD):Int:=if n<0∨16<n then 7 else if 64<l.length then 3 else if (l.all fun d=>inU n.toNat d.Lhs d.Rhs)=true then 0 else 1
theorem Alg {α:Type} {l:List α} {p:α->Bool} {L:Int->Prop} {φ:Int->Prop} (stop:φ 0->L (l.length:Int))
  (step:∀ (k:Nat) a,l[k]? = some a->k<l.length->(if p a=true then L ((k+1:Nat):Int) else φ 1)->L k) (h:φ (if l.all p=true then 0 else 1)):L 0:=
 Alh (l:=l) (p:=p) (L:=L) (φ:=fun b=>φ (if b=true then 0 else 1)) (fun h=>stop (by simpa using h)) (fun k a ha hk h=>step k a ha hk (by simpa using h)) h
theorem q59_.spec {n:Int} {l:List api_FD} (hl:FdOK l):q59_.C n l (fdsE n l):=by
 obtain ⟨r,h1,h2⟩:=q59_.enter n l (fun r=>r=fdsE n l) (by
  by_cases a:n<0∨16<n
  ·have e:fdsE n l=7:=if_pos a;rw [e];by_cases b:n<0
   ·rw [if_pos b]
   ·rw [if_neg b,if_pos (by omega)]
  ·rw [if_neg (by omega),if_neg (by omega)];by_cases b:64<l.length
   ·have e:fdsE n l=3:=by unfold fdsE;rw [if_neg a,if_pos b]
    rw [e,if_pos (by omega)]
   ·have e:fdsE n l=if (l.all fun d=>inU n.toNat d.Lhs d.Rhs)=true then 0 else 1:=by unfold fdsE;rw [if_neg a,if_neg b]
    rw [e,if_neg (by omega)]
    ·obtain ⟨m,rfl⟩:∃ m:Nat,n=m:=⟨n.toNat,by omega⟩
     refine Alg (l:=l) (p:=fun d=>inU m d.Lhs d.Rhs) (L:=fun i=>q59_.L1 m l i _) (φ:=fun r=>r=_) ?_ ?_ rfl
     ·intro h;apply q59_.L1_step;rw [if_neg (by omega)];exact h
     ·intro k d hd hk h;apply q59_.L1_step;rw [if_pos (by omega)];refine ⟨d,Ab2 hd,by omega,?_⟩;have hd':=hl d (List.mem_of_getElem? hd);have e:=Beg (n:=m) hd'.1 hd'.2;rw [Aa3 (by omega)]
      split
      ·rename_i hh;rw [if_pos (e.1 hh)] at h;exact h
      ·rename_i hh;rw [if_neg (fun h3=>hh (e.2 h3))] at h;exact h)
 rw [← h1];exact h2
theorem q36_.spec {n:Int} {l:List api_FD} (hl:FdOK l):q36_.C n l (fdsE n l):=by
 obtain ⟨r,h1,h2⟩:=q36_.enter n l (fun r=>r=fdsE n l) (by
  by_cases a:n<0∨16<n
  ·have e:fdsE n l=7:=if_pos a;rw [e];by_cases b:n<0
   ·rw [if_pos b]
   ·rw [if_neg b,if_pos (by omega)]
  ·rw [if_neg (by omega),if_neg (by omega)];by_cases b:64<l.length
   ·have e:fdsE n l=3:=by unfold fdsE;rw [if_neg a,if_pos b]
    rw [e,if_pos (by omega)]
   ·have e:fdsE n l=if (l.all fun d=>inU n.toNat d.Lhs d.Rhs)=true then 0 else 1:=by unfold fdsE;rw [if_neg a,if_neg b]
    rw [e,if_neg (by omega)]
    ·obtain ⟨m,rfl⟩:∃ m:Nat,n=m:=⟨n.toNat,by omega⟩
     refine ⟨_,q50_.spec,?_⟩;refine Alg (l:=l) (p:=fun d=>inU m d.Lhs d.Rhs) (L:=fun i=>q36_.L1 l (Ad2 m) i _) (φ:=fun r=>r=_) ?_ ?_ rfl
     ·intro h;apply q36_.L1_step;rw [if_neg (by omega)];exact h
     ·intro k d hd hk h;apply q36_.L1_step;rw [if_pos (by omega)];have hd':=hl d (List.mem_of_getElem? hd);refine ⟨d,Ab2 hd,_,Awt (by omega) hd'.1,?_⟩;rw [Aa3 (by omega)];unfold inU at h
      split
      ·rename_i hh;refine ⟨_,Awt (by omega) hd'.2,?_⟩
       split
       ·rename_i h3;rw [if_pos (by rw [hh,h3];rfl)] at h;exact h
       ·rename_i h3;rw [if_neg (by rw [hh,Bool.true_and];exact h3)] at h;exact h
      ·rename_i hh;rw [if_neg (by rw [Bool.eq_false_iff.2 hh];simp)] at h;exact h)
 rw [← h1];exact h2
theorem Bb9 {n:Int} {l:List api_FD} (h:fdsE n l=0):0<=n/\n<=16:=by
 unfold fdsE at h
 split at h
 ·cases h
 ·omega
def Ao3 (l:List api_MVD):Prop:=∀ d∈l,U32 d.Lhs/\U32 d.Rhs
def basE (n:Int) (l:List api_FD) (m:List api_MVD):Int:=if fdsE n l=0 then (if 64<m.length then 3 else if (m.all fun d=>inU n.toNat d.Lhs d.Rhs)=true then 0 else 1) else fdsE n l
theorem q70_.spec {n:Int} {l:List api_FD} {m:List api_MVD} (hl:FdOK l) (hm:Ao3 m):q70_.C n l m (basE n l m):=by
 obtain ⟨r,h1,h2⟩:=q70_.enter n l m (fun r=>r=basE n l m) (by
  refine ⟨_,q59_.spec hl,?_⟩;unfold basE
  split
  ·rename_i h0;have hn:=Bb9 h0
   split
   ·rw [if_pos (by omega)]
   ·rw [if_neg (by omega)];obtain ⟨q,rfl⟩:∃ q:Nat,n=q:=⟨n.toNat,by omega⟩
    refine Alg (l:=m) (p:=fun d=>inU q d.Lhs d.Rhs) (L:=fun i=>q70_.L1 q m i _) (φ:=fun r=>r=_) ?_ ?_ rfl
    ·intro h;apply q70_.L1_step;rw [if_neg (by omega)];exact h
    ·intro k d hd hk h;apply q70_.L1_step;rw [if_pos (by omega)];refine ⟨d,Ab2 hd,by omega,?_⟩;have hd':=hm d (List.mem_of_getElem? hd);have e:=Beg (n:=q) hd'.1 hd'.2;rw [Aa3 (by omega)]
     split
     ·rename_i hh;rw [if_pos (e.1 hh)] at h;exact h
     ·rename_i hh;rw [if_neg (fun h3=>hh (e.2 h3))] at h;exact h
  ·rfl)
 rw [← h1];exact h2
theorem q27_.spec {n:Nat} {x:Int} (hn:n<=32) (hx:U32 x):q27_.C n x (decide (sN x<2^n)):=by
 obtain ⟨r,h1,h2⟩:=q27_.enter n x (fun r=>r=decide (sN x<2^n)) ⟨_,q50_.spec,_,Awt hn hx,rfl⟩;rw [← h1];exact h2
theorem q37_.spec {n:Int} {l:List api_FD} {m:List api_MVD} (hl:FdOK l) (hm:Ao3 m):q37_.C n l m (basE n l m):=by
 obtain ⟨r,h1,h2⟩:=q37_.enter n l m (fun r=>r=basE n l m) (by
  refine ⟨_,q36_.spec hl,?_⟩;unfold basE
  split
  ·rename_i h0;have hn:=Bb9 h0
   split
   ·rw [if_pos (by omega)]
   ·rw [if_neg (by omega)];obtain ⟨q,rfl⟩:∃ q:Nat,n=q:=⟨n.toNat,by omega⟩
    refine Alg (l:=m) (p:=fun d=>inU q d.Lhs d.Rhs) (L:=fun i=>q37_.L1 q m i _) (φ:=fun r=>r=_) ?_ ?_ rfl
    ·intro h;apply q37_.L1_step;rw [if_neg (by omega)];exact h
    ·intro k d hd hk h;apply q37_.L1_step;rw [if_pos (by omega)];have hd':=hm d (List.mem_of_getElem? hd);refine ⟨d,Ab2 hd,_,q27_.spec (by omega) hd'.1,?_⟩;rw [Aa3 (by omega)];unfold inU at h
     split
     ·rename_i hh;refine ⟨_,q27_.spec (by omega) hd'.2,?_⟩
      split
      ·rename_i h3;rw [if_pos (by rw [hh,h3];rfl)] at h;exact h
      ·rename_i h3;rw [if_neg (by rw [hh,Bool.true_and];exact h3)] at h;exact h
     ·rename_i hh;rw [if_neg (by rw [Bool.eq_false_iff.2 hh];simp)] at h;exact h
  ·rfl)
 rw [← h1];exact h2
theorem Aiw {t:api_Table} (ht:TV t) {n i k:Nat} (hn:n<2^32) (hi:i<t.Rows.length) (hk:k<t.Rows.length):Aef (t.Rows[i]).Values (t.Rows[k]).Values n=true↔∀ a,n.testBit a=true->EqA t i k a:=(agr hi hk).trans (Awj ht hn hi hk)
def MixP (t:api_Table) (left i k:Nat):Prop:=∃ j,j<t.Rows.length/\(∀ a,left.testBit a=true->EqA t j i a)/\∀ a,a<t.Attrs.length->left.testBit a=false->EqA t j k a
def MvP (t:api_Table) (l r:Nat):Prop:=∀ i k,i<t.Rows.length->k<t.Rows.length->(∀ a,l.testBit a=true->EqA t i k a)->MixP t (l ||| r) i k
theorem Ank {t:api_Table} (ht:TV t) {n i k:Nat} (hn:n<2^32) (hi:i<t.Rows.length) (hk:k<t.Rows.length):q35_.C (t.Rows[i]) (t.Rows[k]) n (Aef (t.Rows[i]).Values (t.Rows[k]).Values n):=by
 have mi:=List.getElem_mem hi;have mk:=List.getElem_mem hk;have na:=ht.na;have la:=ht.len mi;have lb:=ht.len mk;exact q35_.spec hn (by omega) (by omega) fun v hv=>by have:=Auf (ht.val mi v hv);unfold Big;omega
theorem Awn {n left:Nat} (hn:n<=16) {P:Nat->Prop}:(∀ a,(Ac0 (Ad2 n) left).testBit a=true->P a)↔∀ a,a<n->left.testBit a=false->P a:=by
 constructor
 ·intro h a ha hl;refine h a ?_;rw [Agc,Ajz,hl,decide_eq_true (by omega)];rfl
 ·intro h a ha;rw [Agc,Ajz,Bool.and_eq_true,Bool.not_eq_true',decide_eq_true_eq] at ha;exact h a (by omega) ha.2
theorem q38_.spec {t:api_Table} (ht:TV t) {left i k:Nat} (hl:left<2^32) (hi:i<t.Rows.length) (hk:k<t.Rows.length):∃ b,q38_.C t (t.Rows[i]) (t.Rows[k]) left b/\(b=true↔MixP t left i k):=by
 have na:=ht.na;have nr:=ht.nr;have hf:Ad2 t.Attrs.length<2^32:=Avv;have hrest:Ac0 (Ad2 t.Attrs.length) left<2^32:=Nat.lt_of_le_of_lt Ahm hf;obtain ⟨b,h1,h2⟩:=q38_.enter t (t.Rows[i]) (t.Rows[k]) left (fun b=>(b=true↔MixP t left i k)) (by
  have go:∀ (d j:Nat),d+j=t.Rows.length->(∀ q,q<j->¬ ((∀ a,left.testBit a=true->EqA t q i a)/\∀ a,a<t.Attrs.length->left.testBit a=false->EqA t q k a))->q38_.L1 t (t.Rows[i]) (t.Rows[k]) left (j:Int) (fun b=>(b=true↔MixP t left i k)):=by
   intro d
   induction d with
   | zero=>
    intro j hd hno;apply q38_.L1_step;rw [if_neg (by omega)];simp only [Bool.false_eq_true,false_iff];rintro ⟨q,hq,h⟩;exact hno q (by omega) h
   | succ d ih=>
    intro j hd hno;have hj:j<t.Rows.length:=by omega
    have next:¬ ((∀ a,left.testBit a=true->EqA t j i a)/\∀ a,a<t.Attrs.length->left.testBit a=false->EqA t j k a)->q38_.L2 t (t.Rows[i]) (t.Rows[k]) left (j:Int) (fun b=>(b=true↔MixP t left i k)):=fun hn=>by
     apply q38_.L2_step;rw [Aa3 (by omega)];refine ih (j+1) (by omega) fun q hq=>?_;by_cases hqj:q=j
     ·subst hqj;exact hn
     ·exact hno q (by omega)
    apply q38_.L1_step;rw [if_pos (by omega)];refine ⟨t.Rows[j],Ab2 (List.getElem?_eq_getElem hj),_,Ank ht hl hj hi,?_⟩;by_cases ha:Aef (t.Rows[j]).Values (t.Rows[i]).Values left=true
    ·rw [if_pos ha];refine ⟨_,q50_.spec,?_⟩;rw [Akg (by simpa [top] using hf) (by simpa [top] using hl)];refine ⟨_,Ank ht hrest hj hk,?_⟩;by_cases hb:Aef (t.Rows[j]).Values (t.Rows[k]).Values (Ac0 (Ad2 t.Attrs.length) left)=true
     ·rw [if_pos hb];simp only [true_iff];exact ⟨j,hj,(Aiw ht hl hj hi).1 ha,(Awn na).1 ((Aiw ht hrest hj hk).1 hb)⟩
     ·rw [if_neg hb];exact next fun h=>hb ((Aiw ht hrest hj hk).2 ((Awn na).2 h.2))
    ·rw [if_neg ha];exact next fun h=>ha ((Aiw ht hl hj hi).2 h.1)
  exact go t.Rows.length 0 rfl fun q hq=>absurd hq (Nat.not_lt_zero q))
 exact ⟨b,h2,h1⟩
open Classical in
noncomputable def mvB (t:api_Table) (l r:Nat):Bool:=decide (MvP t l r)
theorem Aiy {t:api_Table} {l r:Nat}:mvB t l r=true↔MvP t l r:=by unfold mvB;exact @decide_eq_true_iff _ (Classical.propDecidable _)
theorem orI {l r:Int} (hl:U32 l) (hr:U32 r):bOr .u32 l r=((sN l ||| sN r:Nat):Int):=by
 conv=>lhs;rw [hl.eq,hr.eq]
 exact Ao6 hl.top hr.top
theorem Aqs {n:Nat} {l r:Int}:inU n l r=true↔sN l ||| sN r<2^n:=by
 unfold inU;rw [Bool.and_eq_true,decide_eq_true_eq,decide_eq_true_eq,Azv]
noncomputable def Ai8 (t:api_Table) (m:api_MVD):Bool×Int:=if inU t.Attrs.length m.Lhs m.Rhs=true then (mvB t (sN m.Lhs) (sN m.Rhs),0) else (false,1)
namespace q39_
theorem loop {t:api_Table} (ht:TV t) {m:api_MVD} (hl:U32 m.Lhs) (hr:U32 m.Rhs) {φ:Bool×Int->Prop} (hf:¬ MvP t (sN m.Lhs) (sN m.Rhs)->φ (false,0)) (hp:MvP t (sN m.Lhs) (sN m.Rhs)->φ (true,0)) :
  ∀ (d i:Nat),d+i=t.Rows.length->(∀ q k,q<i->k<t.Rows.length->(∀ a,(sN m.Lhs).testBit a=true->EqA t q k a)->MixP t (sN m.Lhs ||| sN m.Rhs) q k)->L1 t m (i:Int) φ:=by
 have na:=ht.na;have nr:=ht.nr;have hor:sN m.Lhs ||| sN m.Rhs<2^32:=Nat.or_lt_two_pow hl.lt hr.lt
 intro d
 induction d with
 | zero=>
  intro i hd hdone;apply L1_step;rw [if_neg (by omega)];exact hp fun q k hq hk=>hdone q k (by omega) hk
 | succ d ih=>
  intro i hd hdone;have hi:i<t.Rows.length:=by omega
  apply L1_step;rw [if_pos (by omega)];have inner:∀ (c k:Nat),c+k=t.Rows.length->(∀ q,q<k->(∀ a,(sN m.Lhs).testBit a=true->EqA t i q a)->MixP t (sN m.Lhs ||| sN m.Rhs) i q)->L2 t m (i:Int) (k:Int) φ:=by
   intro c
   induction c with
   | zero=>
    intro k hc hk2;apply L2_step;rw [if_neg (by omega),Aa3 (by omega)];refine ih (i+1) (by omega) fun q k' hq hk'=>?_;by_cases hqi:q=i
    ·subst hqi;exact hk2 k' (by omega)
    ·exact hdone q k' (by omega) hk'
   | succ c ihc=>
    intro k hc hk2;have hk:k<t.Rows.length:=by omega
    have next:((∀ a,(sN m.Lhs).testBit a=true->EqA t i k a)->MixP t (sN m.Lhs ||| sN m.Rhs) i k)->L3 t m (i:Int) (k:Int) φ:=fun hn=>by
     apply L3_step;rw [Aa3 (by omega)];refine ihc (k+1) (by omega) fun q hq=>?_;by_cases hqk:q=k
     ·subst hqk;exact hn
     ·exact hk2 q (by omega)
    apply L2_step;rw [if_pos (by omega)];have hag:=Ank ht hl.lt hi hk;rw [← hl.eq] at hag;refine ⟨t.Rows[i],Ab2 (List.getElem?_eq_getElem hi),t.Rows[k],Ab2 (List.getElem?_eq_getElem hk),_,hag,?_⟩;by_cases ha:Aef (t.Rows[i]).Values (t.Rows[k]).Values (sN m.Lhs)=true
    ·rw [if_pos ha,orI hl hr];obtain ⟨b,hb,hbi⟩:=q38_.spec ht hor hi hk;refine ⟨b,hb,?_⟩;by_cases hbt:b=true
     ·rw [if_pos hbt];exact next fun _=>hbi.1 hbt
     ·rw [if_neg hbt];exact hf fun h=>hbt (hbi.2 (h i k hi hk ((Aiw ht hl.lt hi hk).1 ha)))
    ·rw [if_neg ha];exact next fun h=>absurd ((Aiw ht hl.lt hi hk).2 h) ha
  exact inner t.Rows.length 0 rfl fun q hq=>absurd hq (Nat.not_lt_zero q)
theorem spec {t:api_Table} (ht:TV t) {m:api_MVD} (hl:U32 m.Lhs) (hr:U32 m.Rhs):C t m (Ai8 t m):=by
 have na:=ht.na;obtain ⟨r,h1,h2⟩:=enter t m (fun r=>r=Ai8 t m) (by
  refine ⟨_,q33_.spec,?_⟩;rw [if_pos (Afj.2 ht)];have hw:=q27_.spec (n:=t.Attrs.length) (x:=bOr .u32 m.Lhs m.Rhs) (by omega) (by rw [orI hl hr];exact U32.of (Nat.or_lt_two_pow hl.lt hr.lt));refine ⟨_,hw,?_⟩;unfold Ai8;have e:sN (bOr .u32 m.Lhs m.Rhs)=sN m.Lhs ||| sN m.Rhs:=by rw [orI hl hr,Bjc]
  by_cases hin:inU t.Attrs.length m.Lhs m.Rhs=true
  ·rw [if_pos (by rw [e,decide_eq_true_eq];exact Aqs.1 hin),if_pos hin];refine loop ht hl hr (fun hn=>?_) (fun hy=>by rw [Aiy.2 hy]) t.Rows.length 0 rfl fun q k hq=>absurd hq (Nat.not_lt_zero q);cases hb:mvB t (sN m.Lhs) (sN m.Rhs) with
   | false=>rfl
   | true=>exact absurd (Aiy.1 hb) hn
  ·rw [if_neg (by rw [e,decide_eq_true_eq];exact fun h=>hin (Aqs.2 h)),if_neg hin])
 rw [← h1];exact h2
end q39_
theorem Avr {a b:List api_Value} (hl:a.length=b.length):∀ {l:List Nat},(l.filterMap fun i=>a[i]?).length=(l.filterMap fun i=>b[i]?).length
 | []=>rfl
 | k::l=>by
  have ih:=Avr (a:=a) (b:=b) hl (l:=l);by_cases h:k<a.length
  ·have e1:=List.getElem?_eq_getElem h;have e2:=List.getElem?_eq_getElem (l:=b) (i:=k) (by omega);simp only [List.filterMap_cons,e1,e2,List.length_cons,ih]
  ·have e1:a[k]? = none:=List.getElem?_eq_none (by omega);have e2:b[k]? = none:=List.getElem?_eq_none (by omega);simp only [List.filterMap_cons,e1,e2,ih]
def ofP (t:api_Table) (n:Nat):api_Partition:=part (Ad3 t n)
theorem Bdu {t:api_Table} {n:Nat} (h:TV t) (hn:TNum t):part (t.Rows.map fun r=>Aav (pick r.Values n))=ofP t n:=by
 unfold ofP Ad3;refine Bcg (by simp) fun i j hi hj=>?_;rw [List.length_map] at hi hj;rw [List.getElem?_map,List.getElem?_map,List.getElem?_map,List.getElem?_map,List.getElem?_eq_getElem hi,List.getElem?_eq_getElem hj];simp only [Option.map_some,zJ];have m1:=List.getElem_mem hi;have m2:=List.getElem_mem hj;refine An2 (Avr (by rw [h.len m1,h.len m2])) (fun v hv=>?_) (fun v hv=>?_)
 ·exact ⟨h.val m1 v (Af4 v hv),hn _ m1 v (Af4 v hv)⟩
 ·exact ⟨h.val m2 v (Af4 v hv),hn _ m2 v (Af4 v hv)⟩
namespace q65_
theorem inner {t:api_Table} {n:Nat} {φ:api_Partition->Prop} {ks:List ByteArray} {k:Nat} {r:api_Row} (ht:TV t) (hn:n<2^t.Attrs.length) (hr:r∈t.Rows) (hk:k<1000) (hkk:k<ks.length)
  (h:L1 t ((Aan n).map fun (i:Nat)=>(i:Int)) (ks.set k (Aav (pick r.Values n))) ((k+1:Nat):Int) φ):∀ j,j<=(Aan n).length ->
  L2 t ((Aan n).map fun (i:Nat)=>(i:Int)) ks k r ((Acm (((Aan n).take j).filterMap fun i=>r.Values[i]?)).map b8) k j φ:=by
 have hn32:n<2^32:=Nat.lt_of_lt_of_le hn (Nat.pow_le_pow_right (by decide) (by have:=ht.na;omega));have hl:=Agh (n:=n);refine down ?_ ?_
 ·apply L2_step;rw [List.length_map,if_neg (by omega),List.take_length];refine ⟨ks[k],by rw [Acg];exact List.getElem?_eq_getElem hkk,?_⟩;rw [Aa3 (by omega)];have e:lset ks (k:Int) (Aav (pick r.Values n))=ks.set k (Aav (pick r.Values n)):=by simp [lset]
  unfold Aav pick at e h;rw [e];exact h
 ·intro j hj h;apply L2_step;rw [List.length_map,if_pos (by omega)];have hget:=List.getElem?_eq_getElem hj;generalize (Aan n)[j]=i at hget;have hi:=(Aci hn32).1 (List.mem_of_getElem? hget);have hilt:i<t.Attrs.length:=by
   false_or_by_contra
   rename_i hh;rw [Nat.testBit_lt_two_pow (Nat.lt_of_lt_of_le hn (Nat.pow_le_pow_right (by decide) (by omega)))] at hi;cases hi
  have hrl:=ht.len hr;have hv:=List.getElem?_eq_getElem (l:=r.Values) (i:=i) (by omega);generalize r.Values[i]'(by omega)=v at hv;have hval:=ht.val hr v (List.mem_of_getElem? hv);refine ⟨(i:Int),by rw [Acg,List.getElem?_map,hget];rfl,v,Ab2 hv,(keyW v,0),q72_.spec hval,?_⟩;have hsum:∀ l:List api_Value,(∀ v∈l,Aap v=true)->(Acm l).length<=403*l.length:=by
   intro l
   induction l with
   | nil=>simp [Acm]
   | cons a l ih=>
    intro hh;have:=ih fun v hv=>hh v (by simp [hv]);have h2:=Alw (hh a (by simp));simp only [Acm,List.flatMap_cons,List.length_append,List.length_cons] at this ⊢;omega
  have h1:=hsum (((Aan n).take j).filterMap fun i=>r.Values[i]?) (fun v hv=>by
   obtain ⟨i,_,hi⟩:=List.mem_filterMap.1 hv
   exact ht.val hr v (List.mem_of_getElem? hi))
  have h2:(((Aan n).take j).filterMap fun i=>r.Values[i]?).length<=32:=Nat.le_trans (List.length_filterMap_le _ _) (by rw [List.length_take];omega);have h3:=Alw hval;refine ⟨?_,?_⟩
  ·rw [List.length_map];have:(keyW v).size=(keyJ v).length:=Atv;simp only [this];omega
  ·rw [Aa3 (by omega)];have e:(((Aan n).take (j+1)).filterMap fun i=>r.Values[i]?)=(((Aan n).take j).filterMap fun i=>r.Values[i]?)++[v]:=by
    rw [List.take_add_one,hget,List.filterMap_append];simp [hv]
   rw [e] at h;simp only [Acm,List.flatMap_append,List.map_append] at h;rw [Atu];simpa [Acm] using h
theorem spec {t:api_Table} {n:Nat} (ht:TV t) (hnum:TNum t) (hn:n<2^t.Attrs.length):C t n (ofP t n):=by
 have hn32:n<2^32:=Nat.lt_of_lt_of_le hn (Nat.pow_le_pow_right (by decide) (by have:=ht.na;omega));have hr:=ht.nr;obtain ⟨q,h1,h2⟩:=enter t n (fun q=>q=ofP t n) (by
  refine ⟨_,q49_.spec hn32,by omega,?_⟩;have loop:∀ k,k<=t.Rows.length->L1 t ((Aan n).map fun (i:Nat)=>(i:Int)) ((t.Rows.take k).map (fun r=>Aav (pick r.Values n))++List.replicate (t.Rows.length-k) (⟨#[]⟩:ByteArray)) k fun q=>q=ofP t n:=by
   refine down ?_ ?_
   ·apply L1_step;rw [if_neg (by omega),List.take_length,Nat.sub_self,List.replicate_zero,List.append_nil];refine ⟨_,q12_.spec (by rw [List.length_map];omega),?_⟩;rw [← Bdu ht hnum];simp [part]
   ·intro k hk h;apply L1_step;rw [if_pos (by omega)];have hget:=List.getElem?_eq_getElem hk;generalize t.Rows[k]=r at hget;refine ⟨r,Ab2 hget,?_⟩;have:=inner (t:=t) (n:=n) (φ:=fun q=>q=ofP t n) (ks:=(t.Rows.take k).map (fun r=>Aav (pick r.Values n))++List.replicate (t.Rows.length-k) (⟨#[]⟩:ByteArray)) (k:=k) (r:=r) ht hn (List.mem_of_getElem? hget) (by omega) (by simp [List.length_take];omega) (by
     have e:((t.Rows.take k).map (fun r=>Aav (pick r.Values n))++List.replicate (t.Rows.length-k) (⟨#[]⟩:ByteArray)).set k (Aav (pick r.Values n))=(t.Rows.take (k+1)).map (fun r=>Aav (pick r.Values n))++List.replicate (t.Rows.length-(k+1)) (⟨#[]⟩:ByteArray):=by
      have hl:((t.Rows.take k).map (fun r=>Aav (pick r.Values n))).length=k:=by rw [List.length_map,List.length_take];omega
      obtain ⟨m,hm⟩:∃ m,t.Rows.length-k=m+1:=⟨t.Rows.length-k-1,by omega⟩
      rw [List.set_append_right _ _ (by omega),hl,Nat.sub_self,hm,List.replicate_succ,List.set_cons_zero,List.take_add_one,hget];have:t.Rows.length-(k+1)=m:=by omega
      rw [this];simp
     rw [e];exact h) 0 (Nat.zero_le _)
    simpa [Acm] using this
  have:=loop 0 (Nat.zero_le _)
  simpa using this)
 rw [← h1];exact h2
end q65_
theorem q41_.spec {t:api_Table} {n:Nat} (hn:n<2^32):q41_.C t n (decide (n<2^t.Attrs.length)):=by
 obtain ⟨q,h1,h2⟩:=q41_.enter t n (fun q=>q=decide (n<2^t.Attrs.length)) (by
  refine ⟨by omega,?_⟩;have hn64:n<2^top .u64:=Nat.lt_of_lt_of_le hn (by decide);rw [Afa hn64,Ajh hn64];have:(((n / 2^t.Attrs.length:Nat):Int)=0)↔n<2^t.Attrs.length:=by
   have hp:0<2^t.Attrs.length:=Nat.pos_of_ne_zero (by simp);constructor
   ·intro h;have h2:n / 2^t.Attrs.length=0:=by omega
    rw [Nat.div_eq_zero_iff] at h2;omega
   ·intro h;rw [Nat.div_eq_of_lt h];rfl
  by_cases hh:n<2^t.Attrs.length
  ·simp [hh,this.2 hh]
  ·have h3:¬ ((n / 2^t.Attrs.length:Nat):Int)=0:=fun h=>hh (this.1 h);rw [decide_eq_false hh]
   simpa using h3)
 rw [← h1];exact h2
namespace q14_
theorem inner {t:api_Table} {fd:api_FD} {l r:Nat} {φ:Bool->Prop} {i:Nat} (ht:TV t) (el:fd.Lhs=l) (er:fd.Rhs=r) (hl:l<2^32) (hr:r<2^32) (hi:i<t.Rows.length) (hf:¬ SatP t l r->φ false)
  (h:(∀ k,k<i->OkP t l r i k)->L1 t fd ((i+1:Nat):Int) φ):∀ k,k<=i->((∀ j,j<k->OkP t l r i j)->L2 t fd i k φ):=by
 have nr:=ht.nr;have na:=ht.na;refine down ?_ ?_
 ·intro hk;apply L2_step;rw [if_neg (by omega),Aa3 (by omega)];exact h hk
 ·intro k hk ih hj;apply L2_step;rw [if_pos (by omega)];have mi:=List.getElem_mem hi;have mk:=List.getElem_mem (l:=t.Rows) (n:=k) (by omega);have sv:∀ v∈(t.Rows[i]).Values,v.Str.toList.length<Big:=fun v hv=>by have:=Auf (ht.val mi v hv);unfold Big;omega
  have la:=ht.len mi;have lb:=ht.len mk;have next:OkP t l r i k->L3 t fd i k φ:=fun ho=>by
   apply L3_step;rw [Aa3 (by omega)];refine ih fun j hjk=>?_;by_cases hjj:j=k
   ·subst hjj;exact ho
   ·exact hj j (by omega)
  refine ⟨t.Rows[i],Ab2 (List.getElem?_eq_getElem hi),t.Rows[k],Ab2 (List.getElem?_eq_getElem (by omega)),_,by rw [el];exact q35_.spec hl (by omega) (by omega) sv,?_⟩
  split
  ·rename_i h1;refine ⟨_,by rw [er];exact q35_.spec hr (by omega) (by omega) sv,?_⟩
   split
   ·rename_i h2;exact next fun _=>(agr hi (by omega)).1 h2
   ·rename_i h2;refine hf fun hs=>h2 ?_;exact (agr hi (by omega)).2 (hs i k hi hk ((agr hi (by omega)).1 h1))
  ·rename_i h1;exact next fun hh=>absurd ((agr hi (by omega)).2 hh) h1
theorem spec {t:api_Table} {fd:api_FD} {l r:Nat} (ht:TV t) (el:fd.Lhs=l) (er:fd.Rhs=r) (hl:l<2^32) (hr:r<2^32):∃ b,C t fd b/\(b=true↔SatP t l r):=by
 obtain ⟨b,h1,h2⟩:=enter t fd (fun b=>(b=true↔SatP t l r)) (by
  have nr:=ht.nr;have hf:¬ SatP t l r->(false=true↔SatP t l r):=fun h=>by simp [h]
  have loop:∀ i,i<=t.Rows.length->((∀ a,a<i->∀ k,k<a->OkP t l r a k)->L1 t fd i fun b=>(b=true↔SatP t l r)):=by
   refine down ?_ ?_
   ·intro h;apply L1_step;rw [if_neg (by omega)];simp only [true_iff];exact fun i k hi hk=>h i hi k hk
   ·intro i hi ih hh;apply L1_step;rw [if_pos (by omega)];refine inner ht el er hl hr hi hf (fun hk=>ih fun a ha k hka=>?_) 0 (Nat.zero_le _) (fun j hj=>by omega);by_cases hai:a=i
    ·subst hai;exact hk k hka
    ·exact hh a (by omega) k hka
  exact loop 0 (Nat.zero_le _) (fun a ha=>by omega))
 exact ⟨b,h2,h1⟩
end q14_
theorem Bcl {t:api_Table} (hr:t.Rows.length<=1000) {l r:Nat}:RefP (ofP t l) (ofP t r)↔SatP t l r:=by
 have hb:Ajt (ofP t l) (ofP t r)=0:=by
  have v1:Ac8 (ofP t l)=true:=Am0 (by rw [Af5];exact hr);have v2:Ac8 (ofP t r)=true:=Am0 (by rw [Af5];exact hr);have e:(ofP t l).Rows=(ofP t r).Rows:=by simp [ofP,part,Af5]
  simp [Ajt,v1,v2,e]
 have er:(ofP t l).Rows=(t.Rows.length:Int):=by simp [ofP,part,Af5]
 have key:∀ (n i j:Nat),i<t.Rows.length->j<t.Rows.length->(Same (ofP t n) i j↔(Ad3 t n)[i]? = (Ad3 t n)[j]?):=fun n i j hi hj=>by
  unfold ofP;rw [Bby (by rw [Af5];omega) (by rw [Af5];omega),Acg,Acg]
 constructor
 ·rintro ⟨_,h⟩ i k hi hk e;exact (key r i k hi (by omega)).1 (h i k (by omega) (by omega) ((key l i k hi (by omega)).2 e))
 ·intro h;refine ⟨hb,fun i j hi hj hs=>?_⟩;obtain ⟨i,rfl⟩:∃ n:Nat,i=n:=⟨i.toNat,by omega⟩
  obtain ⟨j,rfl⟩:∃ n:Nat,j=n:=⟨j.toNat,by omega⟩
  exact (key r i j (by omega) (by omega)).2 (h.all (by omega) (by omega) ((key l i j (by omega) (by omega)).1 hs))
def Aj5 (t:api_Table) (l r:Nat):Int:=if Acd t=0 then (if l ||| r<2^t.Attrs.length then 0 else 6) else Acd t
theorem q54_.spec {t:api_Table} {fd:api_FD} {l r:Nat} (hnum:TNum t) (el:fd.Lhs=l) (er:fd.Rhs=r) (hl:l<2^32) (hr:r<2^32):∃ q,q54_.C t fd q/\q.2=Aj5 t l r/\(q.1=true↔Aj5 t l r=0/\SatP t l r):=by
 obtain ⟨q,h1,h2⟩:=q54_.enter t fd (fun q=>q.2=Aj5 t l r/\(q.1=true↔Aj5 t l r=0/\SatP t l r)) (by
  refine ⟨_,q69_.spec,?_⟩;unfold Aj5
  split
  ·rename_i h0;have ht:=Afj.1 h0;rw [el,er,Ao6 (k:=.u32) (by simpa [top] using hl) (by simpa [top] using hr)];refine ⟨_,q41_.spec (Nat.or_lt_two_pow hl hr),?_⟩;by_cases hh:l ||| r<2^t.Attrs.length
   ·rw [if_pos (decide_eq_true hh),if_pos hh];have hll:l<2^t.Attrs.length:=Nat.lt_of_le_of_lt Nat.left_le_or hh;have hrr:r<2^t.Attrs.length:=Nat.lt_of_le_of_lt Nat.right_le_or hh;have sm:∀ m,Ahs (ofP t m):=fun m=>Azw (by rw [Af5];exact ht.nr);obtain ⟨b,hb,hbi⟩:=q28_.spec (sm l) (sm r);refine ⟨_,q65_.spec ht hnum hll,_,q65_.spec ht hnum hrr,b,hb,rfl,?_⟩;rw [hbi,Bcl ht.nr];simp
   ·rw [if_neg (by simpa using hh),if_neg hh];simp
  ·rename_i h0;simp [h0])
 exact ⟨q,h2,h1⟩
end Go.Own
