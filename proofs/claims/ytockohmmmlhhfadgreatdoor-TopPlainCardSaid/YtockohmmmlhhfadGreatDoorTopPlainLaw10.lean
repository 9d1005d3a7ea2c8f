/- What the functions answer. No conditions. -/
import Derived.Test.YtockohmmmlhhfadGreatDoorTopPlainLaw6
import Derived.Test.YtockohmmmlhhfadGreatDoorTopPlainLaw9
set_option linter.all false
namespace Go.Own
def letB (x:Int):Bool:=decide (97<=x/\x<=122∨65<=x/\x<=90∨x=95)
def alnB (x:Int):Bool:=letB x || decide (48<=x/\x<=57)
def As6:List UInt8:=[110,117,108,108]
theorem Bfn:((⟨#[110,117,108,108]⟩:ByteArray)).toList=As6:=Am8 (l:=As6)
theorem Aw3:((⟨#[]⟩:ByteArray)).toList=[]:=Am8 (l:=[])
def Acz:List UInt8->Bool
 | []=>false
 | b::r=>decide (r.length<24)&&letB (u8i b)&&!decide (b::r=As6)&&r.all fun b=>alnB (u8i b)
def Ai3 (s:ByteArray):Bool:=Acz s.toList
theorem Bdk {φ:Bool->Prop} {P:Prop} {x:Int} (h:if alnB x=true then P else φ false) (hl:¬ letB x=true):if x<48 then φ false else if 57<x then φ false else P:=by
 have e:alnB x=decide (48<=x/\x<=57):=by unfold alnB;rw [Bool.eq_false_iff.2 hl,Bool.false_or]
 rw [e] at h
 repeat' split
 ·rw [if_neg (by rw [decide_eq_true_iff];omega)] at h;exact h
 ·rw [if_neg (by rw [decide_eq_true_iff];omega)] at h;exact h
 ·rw [if_pos (by rw [decide_eq_true_iff];omega)] at h;exact h
namespace q89_
theorem two {s:ByteArray} {i:Int} {φ:Bool->Prop} {x:Int} (h:if letB x=true then L3 s i φ else if i=0 then φ false else if x<48 then φ false else if 57<x then φ false else L3 s i φ):L2 s i x (letB x) φ:=by
 apply L2_step;exact h
theorem spec {s : ByteArray} : C s (Ai3 s) := by
  obtain ⟨r, h1, h2⟩ := enter s (fun r => r = Ai3 s) (by
    unfold Ai3;rw [Ahi, Bfn, Aw3];cases hs : s.toList with
    | nil => simp [Acz]
    | cons b t =>
      rw [if_neg (by simp)]
      split
      · rename_i hn
        have hn : 24 <= t.length := by simp at hn; omega
        simp [Acz]; omega
      · rename_i hn
        have hn : t.length < 24 := by simp at hn; omega
        have hlen : s.toList.length = t.length + 1 := by rw [hs]; rfl
        split
        · rename_i h0
          simp [Acz, As6, h0]
        · rename_i h0
          have body : ∀ (k : Nat) c, s.toList[k]? = some c -> (if letB (u8i c) = true then L1 s ((k + 1 : Nat) : Int) (fun r => r = Acz (b :: t)) else if (k : Int) = 0 then false = Acz (b :: t) else if (u8i c) < 48 then false = Acz (b :: t) else if 57 < (u8i c) then false = Acz (b :: t) else L1 s ((k + 1 : Nat) : Int) (fun r => r = Acz (b :: t))) -> L1 s k (fun r => r = Acz (b :: t)) := by
            intro k c hc h;have hk := (List.getElem?_eq_some_iff.1 hc).1;apply L1_step;rw [Ahi, if_pos (by omega)];refine ⟨c, Asy hc, ?_⟩;have next : L1 s ((k + 1 : Nat) : Int) (fun r => r = Acz (b :: t)) -> L3 s k fun r => r = Acz (b :: t) := fun h => by
              apply L3_step;rw [Aa4 (by omega)];exact h
            have key : L2 s k (u8i c) (letB (u8i c)) fun r => r = Acz (b :: t) := by
              apply two
              split
              · rename_i hh; rw [if_pos hh] at h; exact next h
              · rename_i hh; rw [if_neg hh] at h
                split
                · rename_i h2; rw [if_pos h2] at h; exact h
                · rename_i h2; rw [if_neg h2] at h
                  split
                  · rename_i h3; rw [if_pos h3] at h; exact h
                  · rename_i h3; rw [if_neg h3] at h
                    split
                    · rename_i h4; rw [if_pos h4] at h; exact h
                    · rename_i h4; rw [if_neg h4] at h; exact next h
            have e : ∀ v, v = letB (u8i c) -> L2 s k (u8i c) v fun r => r = Acz (b :: t) := by rintro _ rfl; exact key
            repeat' split
            all_goals apply e
            all_goals unfold letB
            all_goals first
              | (symm; rw [decide_eq_true_iff]; omega)
              | (by_cases h : u8i c = 95
                 · simp [h]
                 · have : (u8i c == 95) = false := by simpa using h
                   rw [this]; symm; rw [decide_eq_false_iff_not]; omega)
          have h0s : s.toList[0]? = some b := by rw [hs]; rfl
          refine body 0 b h0s ?_
          split
          · rename_i hb
            have rest := Am2 (l := t) (p := fun b => alnB (u8i b)) (L := fun i => L1 s (i + 1) fun r => r = Acz (b :: t)) (φ := fun r => r = Acz (b :: t)) ?_ ?_ ?_
            · simpa using rest
            · intro h
              apply L1_step;rw [Ahi, if_neg (by omega)]; exact h
            · intro k c hc hk h
              have e1 : ((k : Nat) : Int) + 1 = ((k + 1 : Nat) : Int) := by omega
              rw [e1];refine body (k + 1) c (by rw [hs]; simpa using hc) ?_
              split
              · rename_i hl
                rw [if_pos (by unfold alnB; rw [hl]; rfl)] at h;exact h
              · rename_i hl
                rw [if_neg (by omega)];exact Bdk (φ := fun r => r = Acz (b :: t)) h hl
            · simp [Acz, hb, h0, hn]
          · rename_i hb
            simp [Acz, hb])
  rw [← h1]; exact h2
end q89_
def eqS (x a:ByteArray):Bool:=decide (a=x)
def Afr:List ByteArray->List ByteArray->Bool
 | _,[]=>true
 | pre,a::r=>Ai3 a&&!pre.any (eqS a)&&Afr (pre++[a]) r
def Ag1 (l:List ByteArray):Bool:=Afr [] l
namespace q34_
theorem spec {l:List ByteArray} {x:ByteArray} (hn:l.length<Big):C l x (ixI (eqS x) l):=by
 obtain ⟨r,h1,h2⟩:=enter l x (fun r=>r=ixI (eqS x) l) (by
  refine Aro (l:=l) (p:=eqS x) (L:=fun i=>L1 l x i _) (φ:=fun r=>r=ixI (eqS x) l) ?_ ?_ rfl
  ·intro h;apply L1_step;rw [if_neg (by omega)];exact h
  ·intro k a ha hk h;apply L1_step;rw [if_pos (by omega)];refine ⟨a,Abx ha,?_⟩;rw [Aa4 (by unfold Big at hn;omega)]
   split
   ·rename_i hh;rw [if_pos (by simp [eqS,Alb.1 hh])] at h;exact h
   ·rename_i hh;rw [if_neg (by simp only [eqS,decide_eq_true_eq];rintro rfl;exact hh rfl)] at h;exact h)
 rw [← h1];exact h2
end q34_
theorem q31_.spec {l:List ByteArray} {x:ByteArray} (hn:l.length<Big):q31_.C l x (l.any (eqS x)):=by
 obtain ⟨r,h1,h2⟩:=q31_.enter l x (fun r=>r=l.any (eqS x)) ⟨_,q34_.spec hn,by rw [Az0]⟩;rw [← h1];exact h2
theorem Bah {l : List ByteArray} {L : Int -> Prop} {P Q : Prop} (stop : P -> L (l.length : Int))
    (step : ∀ (k : Nat) a, l[k]? = some a -> k < l.length -> (if Ai3 a = true then (if (l.take k).any (eqS a) = true then Q else L ((k + 1 : Nat) : Int)) else Q) -> L k) (h : Ag1 l = true -> P) (h' : Ag1 l = false -> Q) : L 0 := by
  have : ∀ (r : List ByteArray) (k : Nat), l.drop k = r -> k <= l.length -> (Afr (l.take k) r = true -> P) -> (Afr (l.take k) r = false -> Q) -> L k := by
    intro r
    induction r with
    | nil => intro k hd hk h h'; have : k = l.length := by have := Aar hd; omega
             subst this; exact stop (h rfl)
    | cons a r ih =>
      intro k hd hk h h';have hlt := Aas hd;refine step k a (Aae hd) hlt ?_;have hn := ih (k + 1) (Aa8 hd) hlt;have e : l.take (k + 1) = l.take k ++ [a] := by rw [List.take_add_one, Aae hd]; rfl
      rw [e] at hn;simp only [Afr] at h h'
      split
      · rename_i h1
        split
        · rename_i h2
          exact h' (by simp [h1, h2])
        · rename_i h2
          have h2 := Bool.eq_false_iff.2 h2;exact hn (fun hh => h (by simp [h1, h2, hh])) (fun hh => h' (by simp [h1, h2, hh]))
      · rename_i h1
        have h1 := Bool.eq_false_iff.2 h1;exact h' (by simp [h1])
  exact this l 0 rfl (Nat.zero_le _) h h'
def Ab0 (v:api_Value):Bool:=decide (v.Kind=0/\v.Num=0/\v.Str.toList=[]∨v.Kind=1/\v.Str.toList=[]∨v.Kind=2/\v.Num=0/\v.Str.toList.length<=200∨v.Kind=3/\1<=v.Num/\v.Str.toList=[])
theorem Bb6 {v : api_Value} {φ : Bool -> Prop} (h : φ (Ab0 v)) : (if v.Kind = 0 then (if v.Num = 0 then φ ((v.Str.toList == ((⟨#[]⟩ : ByteArray)).toList)) else φ false) else (if v.Kind = 1 then φ ((v.Str.toList == ((⟨#[]⟩ : ByteArray)).toList)) else (if v.Kind = 2 then (if v.Num = 0 then φ ((decide ((Ag6 v.Str) <= 200))) else φ false) else (if v.Kind = 3 then (if 1 <= v.Num then φ ((v.Str.toList == ((⟨#[]⟩ : ByteArray)).toList)) else φ false) else φ false)))) := by
  have e : ∀ b, b = Ab0 v -> φ b := by rintro _ rfl; exact h
  have e0 : (v.Str.toList == ((⟨#[]⟩ : ByteArray)).toList) = decide (v.Str.toList = []) := by
    rw [Aw3];by_cases h : v.Str.toList = []
    · simp [h]
    · simp [h]
  rw [e0, Ahi]
  repeat' split
  all_goals apply e
  all_goals unfold Ab0
  all_goals first
    | (rw [decide_eq_decide]; omega)
    | (symm; rw [decide_eq_false_iff_not]; omega)
    | (rw [decide_eq_decide]; constructor
       · intro h; simp_all
       · intro h; simp_all)
theorem q93_.spec {v:api_Value}:q93_.C v (Ab0 v):=by
 obtain ⟨r,h1,h2⟩:=q93_.enter v (fun r=>r=Ab0 v) (Bb6 (φ:=fun r=>r=Ab0 v) rfl);rw [← h1];exact h2
def Aew (l:List api_Value):Bool:=l.all Ab0
theorem q44_.spec {v:api_Value}:q44_.C v (!Ab0 v):=by
 obtain ⟨r,h1,h2⟩:=q44_.enter v (fun r=>r=!Ab0 v) ⟨_,q93_.spec,rfl⟩;rw [← h1];exact h2
namespace q13_
theorem spec {l:List api_Value} (hn:l.length<Big):C l (ixI (fun v=>!Ab0 v) l):=by
 obtain ⟨r,h1,h2⟩:=enter l (fun r=>r=ixI (fun v=>!Ab0 v) l) (by
  refine Aro (l:=l) (p:=fun v=>!Ab0 v) (L:=fun i=>L1 l i _) (φ:=fun r=>r=ixI (fun v=>!Ab0 v) l) ?_ ?_ rfl
  ·intro h;apply L1_step;rw [if_neg (by omega)];exact h
  ·intro k a ha hk h;apply L1_step;rw [if_pos (by omega)];refine ⟨a,Abx ha,_,q44_.spec,?_⟩;rw [Aa4 (by unfold Big at hn;omega)]
   exact h)
 rw [← h1];exact h2
end q13_
theorem q7_.spec {l:List api_Value} (hn:l.length<Big):q7_.C l (!Aew l):=by
 obtain ⟨r,h1,h2⟩:=q7_.enter l (fun r=>r=!Aew l) ⟨_,q13_.spec hn,by
  rw [Az0];unfold Aew;rw [List.any_eq_not_all_not];simp⟩
 rw [← h1];exact h2
theorem q50_.spec {l:List api_Value} (hn:l.length<Big):q50_.C l (Aew l):=by
 obtain ⟨r,h1,h2⟩:=q50_.enter l (fun r=>r=Aew l) ⟨_,q7_.spec hn,by
  show (!(!Aew l))=_
  rw [Bool.not_not]⟩
 rw [← h1];exact h2
def Adj (n:Nat):Int->List api_Row->Int
 | _,[]=>0
 | last,r::rs=>if r.ID<=last then 1 else if r.Values.length=n then (if Aew r.Values=true then Adj n r.ID rs else 1) else 6
def Ajz (t:api_Table):Int:=if Ai3 t.Name=true then (if 16<t.Attrs.length then 3 else if 1000<t.Rows.length then 3 else if Ag1 t.Attrs=true then Adj t.Attrs.length 0 t.Rows else 1) else 1
theorem Bcx {n : Nat} {l : List api_Row} {L : Int -> Int -> Prop} {φ : Int -> Prop} (stop : ∀ last, φ 0 -> L last (l.length : Int))
    (step : ∀ (k : Nat) r last, l[k]? = some r -> k < l.length -> (if r.ID <= last then φ 1 else if r.Values.length = n then (if Aew r.Values = true then L r.ID ((k + 1 : Nat) : Int) else φ 1) else φ 6) -> L last k) (h : φ (Adj n 0 l)) : L 0 0 := by
  have : ∀ (r : List api_Row) (k : Nat) (last : Int), l.drop k = r -> k <= l.length -> φ (Adj n last r) -> L last k := by
    intro r
    induction r with
    | nil => intro k last hd hk h; have : k = l.length := by have := Aar hd; omega
             subst this; exact stop _ h
    | cons a r ih =>
      intro k last hd hk h;have hlt := Aas hd;refine step k a last (Aae hd) hlt ?_;simp only [Adj] at h
      split
      · rename_i h1; rw [if_pos h1] at h; exact h
      · rename_i h1; rw [if_neg h1] at h
        split
        · rename_i h2; rw [if_pos h2] at h
          split
          · rename_i h3; rw [if_pos h3] at h; exact ih (k + 1) _ (Aa8 hd) hlt h
          · rename_i h3; rw [if_neg h3] at h; exact h
        · rename_i h2; rw [if_neg h2] at h; exact h
  exact this l 0 0 rfl (Nat.zero_le _) h
namespace q94_
theorem rows {t:api_Table} {φ:Int->Prop} (hr:t.Rows.length<=1000) (ha:t.Attrs.length<=16) (h:φ (Adj t.Attrs.length 0 t.Rows)):L2 t 0 0 φ:=by
 refine Bcx (n:=t.Attrs.length) (l:=t.Rows) (L:=fun last i=>L2 t last i φ) (φ:=φ) ?_ ?_ h
 ·intro last h;apply L2_step;rw [if_neg (by omega)];exact h
 ·intro k r last hr hk h;apply L2_step;rw [if_pos (by omega)];refine ⟨r,Abx hr,?_⟩
  split
  ·rename_i h1;rw [if_pos h1] at h;exact h
  ·rename_i h1;rw [if_neg h1] at h
   split
   ·rename_i h2;have h2:r.Values.length=t.Attrs.length:=by omega
    rw [if_pos h2] at h;refine ⟨_,q50_.spec (by unfold Big;omega),?_⟩;rw [Aa4 (by omega)];exact h
   ·rename_i h2;rw [if_neg (by omega)] at h;exact h
theorem spec {t:api_Table}:C t (Ajz t):=by
 obtain ⟨r,h1,h2⟩:=enter t (fun r=>r=Ajz t) (by
  refine ⟨_,q89_.spec,?_⟩;unfold Ajz
  split
  ·by_cases h1:16<t.Attrs.length
   ·rw [if_pos (by omega),if_pos h1]
   ·rw [if_neg (by omega),if_neg h1];by_cases h2:1000<t.Rows.length
    ·rw [if_pos (by omega),if_pos h2]
    ·rw [if_neg (by omega),if_neg h2];refine Bah (l:=t.Attrs) (L:=fun i=>L1 t i _) (P:=Adj t.Attrs.length 0 t.Rows=if Ag1 t.Attrs=true then Adj t.Attrs.length 0 t.Rows else 1) (Q:=(1:Int)=if Ag1 t.Attrs=true then Adj t.Attrs.length 0 t.Rows else 1) ?_ ?_ ?_ ?_
     ·intro h;apply L1_step;rw [if_neg (by omega)];exact rows (φ:=fun r=>r=if Ag1 t.Attrs=true then Adj t.Attrs.length 0 t.Rows else 1) (by omega) (by omega) h
     ·intro k a ha hk h;apply L1_step;rw [if_pos (by omega)];refine ⟨a,Abx ha,_,q89_.spec,?_⟩
      split
      ·rename_i h1;rw [if_pos h1] at h;refine ⟨by omega,by omega,_,q31_.spec (by rw [List.length_take];unfold Big;omega),?_⟩;rw [Int.toNat_natCast,Nat.sub_zero,Aa4 (by omega)];exact h
      ·rename_i h1;rw [if_neg h1] at h;exact h
     ·intro h;rw [if_pos h]
     ·intro h;rw [if_neg (by rw [h];decide)]
  ·rfl)
 rw [← h1];exact h2
end q94_
namespace q69_
theorem loop {φ:List Int->Prop}:∀ (n:Nat) (acc:List Int),n<2^32->acc.length+(Aaa n).length<=1000->φ (acc++(Aaa n).map fun (i:Nat)=>(i:Int))->L1 n acc φ:=by
 intro n
 induction n using Nat.strongRecOn with
 | _ n ih=>
  intro acc hn hl h;apply L1_step;by_cases h0:n=0
  ·subst h0;rw [Axs] at h;rw [if_pos (by omega)];simpa using h
  ·rw [if_neg (by omega)];rw [Axr h0 hn] at hl h;simp only [List.length_cons] at hl;refine ⟨by omega,by omega,?_⟩;have e1:IntKind.wrap .u32 ((n:Int)-1)=((n-1:Nat):Int):=by
    have:(n:Int)-1=((n-1:Nat):Int):=by omega
    rw [this];exact Adh (k:=.u32) (by simp only [top];omega)
   rw [e1,Aw0 (k:=.u32) (by simpa [top] using hn) (by simp only [top];omega)];refine ih _ (Bdu h0) _ (Nat.lt_of_le_of_lt Nat.and_le_left hn) (by rw [List.length_append,List.length_singleton];omega) ?_;have e2:tz32 (n:Int)=((Ac9 n 32 0:Nat):Int):=by unfold tz32;rw [Int.toNat_natCast]
   rw [e2];simpa using h
theorem spec {n:Nat} (hn:n<2^32):C n ((Aaa n).map fun (i:Nat)=>(i:Int)):=by
 obtain ⟨r,h1,h2⟩:=enter n (fun r=>r=(Aaa n).map fun (i:Nat)=>(i:Int)) (loop n [] hn (by have:=Aej (n:=n);simp;omega) (by simp));rw [← h1];exact h2
end q69_
namespace q70_
theorem loop {k:Nat} {φ:Int->Prop} (h:φ (Akd k)):∀ (m i:Nat),i+m=min k 32->L1 k ((2^i-1:Nat):Int) i φ
 | 0,i,hi=>by
  apply L1_step;have e:((2^i-1:Nat):Int)=(Akd k:Int):=by unfold Akd;rw [← hi,Nat.add_zero]
  rw [e]
  split
  ·rw [if_neg (by omega)];exact h
  ·exact h
 | m+1,i,hi=>by
  apply L1_step;rw [if_pos (by omega),if_pos (by omega)];refine ⟨by omega,?_⟩;have hp:2^(i+1)<=2^32:=Nat.pow_le_pow_right (by decide) (by omega);have h2:0<2^i:=Nat.pos_of_ne_zero (by simp);rw [Nat.pow_succ] at hp;rw [Ax9 (k:=.u32) (by simp only [top];omega),Asw (k:=.u32) (by simp only [top];omega) (by simp only [top];omega),Aa4 (by omega)];have e:(2^i-1) ||| 2^i=2^(i+1)-1:=by
   apply Nat.eq_of_testBit_eq;intro j;rw [Nat.testBit_or,Nat.testBit_two_pow_sub_one,Nat.testBit_two_pow,Nat.testBit_two_pow_sub_one];by_cases h1:j<i
   ·have:j<i+1:=by omega
    simp [h1,this]
   ·by_cases h3:i=j
    ·subst h3;simp
    ·have:¬ j<i+1:=by omega
     simp [h1,h3,this]
  rw [e];exact loop h m (i+1) (by omega)
theorem spec {k:Nat}:C k (Akd k):=by
 obtain ⟨r,h1,h2⟩:=enter k (fun r=>r=(Akd k:Int)) (loop (φ:=fun r=>r=(Akd k:Int)) rfl (min k 32) 0 (by omega));rw [← h1];exact h2
end q70_
end Go.Own

namespace Go.Own
theorem Agl {a b:Int}:cmpI a b=0↔a=b:=by
 unfold cmpI;repeat' split
 all_goals omega
def cmpL:List UInt8->List UInt8->Int
 | [],[]=>0
 | [],_::_=>-1
 | _::_,[]=>1
 | a::r,b::s=>if a=b then cmpL r s else cmpI (u8i a) (u8i b)
theorem Atx:∀ {a b:List UInt8},cmpL a b=0↔a=b
 | [],[]=>by simp [cmpL]
 | [],_::_=>by simp [cmpL]
 | _::_,[]=>by simp [cmpL]
 | a::r,b::s=>by
  simp only [cmpL]
  split
  ·rename_i h;subst h;rw [Atx];simp
  ·rename_i h;rw [Agl,Aph];simp [h]
def cmpS (a b:ByteArray):Int:=cmpL a.toList b.toList
def cmpV (v w:api_Value):Int:=if cmpI v.Kind w.Kind=0 then (if cmpI v.Num w.Num=0 then cmpS v.Str w.Str else cmpI v.Num w.Num) else cmpI v.Kind w.Kind
theorem Aty {v w:api_Value}:cmpV v w=0↔v=w:=by
 obtain ⟨k,n,s⟩:=v;obtain ⟨k',n',s'⟩:=w;unfold cmpV cmpS;simp only [api_Value.mk.injEq]
 split
 ·rename_i h1;rw [Agl] at h1
  split
  ·rename_i h2;rw [Agl] at h2;rw [Atx,Alb];simp [h1,h2]
  ·rename_i h2;have h3:=h2;rw [Agl] at h3;simp [h2,h3]
 ·rename_i h1;have h3:=h1;rw [Agl] at h3;simp [h1,h3]
def be:Nat->Nat->List Int
 | 0,_=>[]
 | j+1,u=>((u / 2^(8*j) % 256:Nat):Int)::be j u
theorem Ar6:∀ {j u},(be j u).length=j
 | 0,_=>rfl
 | j+1,u=>by simp [be,Ar6]
theorem Aw1:∀ {j u},∀ x∈be j u,0<=x/\x<256
 | 0,_,_,h=>by simp [be] at h
 | j+1,u,x,h=>by
  simp only [be,List.mem_cons] at h;rcases h with rfl | h
  ·omega
  ·exact Aw1 x h
theorem Bbn:∀ {j u v},be j u=be j v->u % 2^(8*j)=v % 2^(8*j)
 | 0,u,v,_=>by simp [Nat.mod_one]
 | j+1,u,v,h=>by
  simp only [be,List.cons.injEq] at h;have ih:=Bbn h.2;have e:2^(8*(j+1))=2^(8*j)*256:=by rw [Nat.mul_add,Nat.pow_add]
  rw [e,Nat.mod_mul,Nat.mod_mul,ih];have:u / 2^(8*j) % 256=v / 2^(8*j) % 256:=by omega
  rw [this]
def Agx (n:Int):Nat:=(n % 18446744073709551616).toNat ^^^ 9223372036854775808
theorem Anx {n:Int}:Agx n<2^64:=Nat.xor_lt_two_pow (by omega) (by decide)
theorem Azx {m n:Int} (hm : -9223372036854775808<=m/\m<9223372036854775808) (hn : -9223372036854775808<=n/\n<9223372036854775808) (h:Agx m=Agx n):m=n:=by
 unfold Agx at h;have h2:(m % 18446744073709551616).toNat=(n % 18446744073709551616).toNat:=by
  have:=congrArg (· ^^^ 9223372036854775808) h;simpa [Nat.xor_assoc] using this
 omega
namespace q90_
theorem loop {φ:List Int->Prop} {u:Nat} (hu:u<2^64):∀ (j:Nat) (acc:List Int),j<=8->acc.length+j<=1000->φ (acc++be j u)->L1 acc u (8*(j:Int)-8) φ
 | 0,acc,hj,hl,h=>by
  apply L1_step;rw [if_neg (by omega)];simpa [be] using h
 | j+1,acc,hj,hl,h=>by
  apply L1_step;rw [if_pos (by omega)];refine ⟨by omega,by omega,?_⟩;have e1:8*((j+1:Nat):Int)-8=((8*j:Nat):Int):=by omega
  rw [e1,Ahq (k:=.u64) (by simpa [top] using hu),IntKind.wrap_u8,Ac7 (by omega) (by omega)];have e2:((8*j:Nat):Int)-8=8*(j:Int)-8:=by omega
  rw [e2];refine loop hu j _ (by omega) (by simp;omega) ?_;have e3:((u / 2^(8*j):Nat):Int) % 256=((u / 2^(8*j) % 256:Nat):Int):=by omega
  rw [e3];simpa [be] using h
theorem spec {n:Int} {acc:List Int} (hl:acc.length<=900):C n acc (acc++be 8 (Agx n)):=by
 obtain ⟨r,h1,h2⟩:=enter n acc (fun r=>r=acc++be 8 (Agx n)) (by
  have e:bXor .u64 (IntKind.wrap .u64 n) 9223372036854775808=(Agx n:Int):=by
   have e1:IntKind.wrap .u64 n=(((n % 18446744073709551616).toNat:Nat):Int):=by
    simp only [IntKind.wrap,IntKind.bits,IntKind.signed];simp;omega
   rw [e1];exact Bdn (k:=.u64) (b:=9223372036854775808) (by simp only [top];omega) (by simp only [top];omega)
  rw [e]
  exact loop Anx 8 acc (by omega) (by omega) rfl)
 rw [← h1];exact h2
end q90_
def esc:List UInt8->List Int
 | []=>[]
 | b::r=>if u8i b=0 then 0::255::esc r else u8i b::esc r
theorem Be4 {l:List UInt8} {b:UInt8}:esc (l++[b])=esc l++esc [b]:=by
 induction l with
 | nil=>rfl
 | cons a l ih=>simp only [List.cons_append,esc,ih];split<;>rfl
theorem Akc:∀ {l:List UInt8},∀ x∈esc l,0<=x/\x<256
 | [],x,h=>by simp [esc] at h
 | b::r,x,h=>by
  simp only [esc] at h
  split at h
  ·simp only [List.mem_cons] at h;rcases h with rfl | rfl | h
   ·omega
   ·omega
   ·exact Akc x h
  ·simp only [List.mem_cons] at h;rcases h with rfl | h
   ·exact Bkl
   ·exact Akc x h
theorem Ap1:∀ {l:List UInt8},(esc l).length<=2*l.length
 | []=>by simp [esc]
 | b::r=>by
  have:=Ap1 (l:=r);simp only [esc]
  split<;>simp only [List.length_cons]<;>omega
theorem At3:∀ {a b:List UInt8} {r s:List Int},esc a++(0::1::r)=esc b++(0::1::s)->a=b/\r=s
 | [],[],r,s,h=>by simpa [esc] using h
 | [],y::b,r,s,h=>by
  simp only [esc] at h
  split at h
  ·simp at h
  ·rename_i hy;simp only [List.nil_append,List.cons_append,List.cons.injEq] at h;exact absurd h.1.symm hy
 | x::a,[],r,s,h=>by
  simp only [esc] at h
  split at h
  ·simp at h
  ·rename_i hx;simp only [List.nil_append,List.cons_append,List.cons.injEq] at h;exact absurd h.1 hx
 | x::a,y::b,r,s,h=>by
  simp only [esc] at h
  split at h
  ·rename_i hx
   split at h
   ·rename_i hy;simp only [List.cons_append,List.cons.injEq,true_and] at h;obtain ⟨h1,h2⟩:=At3 h;exact ⟨by rw [h1,Aph.1 (hx.trans hy.symm)],h2⟩
   ·rename_i hy;simp only [List.cons_append,List.cons.injEq] at h;exact absurd h.1.symm hy
  ·rename_i hx
   split at h
   ·rename_i hy;simp only [List.cons_append,List.cons.injEq] at h;exact absurd h.1 hx
   ·rename_i hy;simp only [List.cons_append,List.cons.injEq] at h;obtain ⟨h1,h2⟩:=At3 h.2;exact ⟨by rw [h1,Aph.1 h.1],h2⟩
def keyJ (v:api_Value):List Int:=v.Kind::(if v.Kind=1∨v.Kind=3 then be 8 (Agx v.Num) else if v.Kind=2 then esc v.Str.toList++[0,1] else [])
def Aik (v:api_Value):Prop:=-9223372036854775808<=v.Num/\v.Num<9223372036854775808
theorem Afh {v:api_Value} (h:Ab0 v=true):v.Kind=0/\v.Num=0/\v.Str.toList=[]∨v.Kind=1/\v.Str.toList=[]∨v.Kind=2/\v.Num=0/\v.Str.toList.length<=200∨v.Kind=3/\1<=v.Num/\v.Str.toList=[]:=by
 simpa [Ab0] using h
theorem Ars {v:api_Value} (h:Ab0 v=true):∀ x∈keyJ v,0<=x/\x<256:=by
 intro x hx;have hk:0<=v.Kind/\v.Kind<=3:=by rcases Afh h with h | h | h | h<;>omega
 simp only [keyJ,List.mem_cons] at hx;rcases hx with rfl | hx
 ·omega
 ·split at hx
  ·exact Aw1 x hx
  ·split at hx
   ·rcases List.mem_append.1 hx with hx | hx
    ·exact Akc x hx
    ·simp at hx;rcases hx with rfl | rfl<;>omega
   ·simp at hx
theorem Awo {v:api_Value} (h:Ab0 v=true):(keyJ v).length<=403:=by
 simp only [keyJ,List.length_cons]
 split
 ·rw [Ar6];omega
 ·split
  ·have:=Ap1 (l:=v.Str.toList);have:v.Str.toList.length<=200:=by
    rcases Afh h with h | h | h | h
    ·rw [h.2.2];simp
    ·rw [h.2];simp
    ·exact h.2.2
    ·rw [h.2.2];simp
   simp;omega
  ·simp
theorem Bef {v w:api_Value} {r s:List Int} (hv:Ab0 v=true) (hw:Ab0 w=true) (nv:Aik v) (nw:Aik w) (h:keyJ v++r=keyJ w++s):v=w/\r=s:=by
 obtain ⟨k,n,t⟩:=v;obtain ⟨k',n',t'⟩:=w;simp only [keyJ,List.cons_append,List.cons.injEq] at h;obtain ⟨rfl,h⟩:=h;have hv:=Afh hv;have hw:=Afh hw;simp only at hv hw;simp only [api_Value.mk.injEq,true_and];by_cases h1:k=1∨k=3
 ·rw [if_pos h1,if_pos h1] at h;have h3:=List.append_inj h (by rw [Ar6,Ar6]);have h2:=Bbn h3.1;rw [Nat.mod_eq_of_lt Anx,Nat.mod_eq_of_lt Anx] at h2;have e:=Azx nv nw h2;simp only at e;refine ⟨⟨e,?_⟩,h3.2⟩;rw [← Alb];have a1:t.toList=[]:=by rcases hv with h | h | h | h<;>first | exact h.2.2 | exact h.2 | omega
  have a2:t'.toList=[]:=by rcases hw with h | h | h | h<;>first | exact h.2.2 | exact h.2 | omega
  rw [a1,a2]
 ·rw [if_neg h1,if_neg h1] at h;by_cases h2:k=2
  ·rw [if_pos h2,if_pos h2,List.append_assoc,List.append_assoc] at h;obtain ⟨e1,e2⟩:=At3 h;rw [Alb] at e1;exact ⟨⟨by omega,e1⟩,e2⟩
  ·rw [if_neg h2,if_neg h2] at h;have a1:t.toList=[]:=by rcases hv with h | h | h | h<;>first | exact h.2.2 | exact h.2 | omega
   have a2:t'.toList=[]:=by rcases hw with h | h | h | h<;>first | exact h.2.2 | exact h.2 | omega
   exact ⟨⟨by omega,by rw [← Alb,a1,a2]⟩,by simpa using h⟩
def keyW (v:api_Value):ByteArray:=Am9 (keyJ v)
namespace q98_
theorem loop {v:api_Value} {φ:ByteArray×Int->Prop} (hk:v.Kind=2) (hs:v.Str.toList.length<=200) (h:φ (keyW v,0)):∀ (r:List UInt8) (k:Nat),v.Str.toList.drop k=r->k<=v.Str.toList.length->L1 v (2::esc (v.Str.toList.take k)) k φ:=by
 intro r
 induction r with
 | nil=>
  intro k hd hk2;apply L1_step;have:=Aar hd;rw [Ahi,if_neg (by omega),List.take_of_length_le this];have hl:=Ap1 (l:=v.Str.toList);have e:keyJ v=(2::esc v.Str.toList)++[0,1]:=by simp [keyJ,hk]
  refine ⟨by simp only [List.length_cons];omega,fun x hx=>?_,?_⟩
  ·rcases List.mem_append.1 hx with hx | hx
   ·rcases List.mem_cons.1 hx with rfl | hx
    ·omega
    ·exact Akc x hx
   ·simp at hx;rcases hx with rfl | rfl<;>omega
  ·rw [← e];exact h
 | cons b r ih=>
  intro k hd hk2;have hlt:=Aas hd;apply L1_step;rw [Ahi,if_pos (by omega)];have hl:=Ap1 (l:=v.Str.toList.take k);rw [List.length_take] at hl;refine ⟨b,Asy (Aae hd),by simp only [List.length_cons];omega,b,Asy (Aae hd),?_⟩;have ih:=ih (k+1) (Aa8 hd) hlt;have e:v.Str.toList.take (k+1)=v.Str.toList.take k++[b]:=by rw [List.take_add_one,Aae hd];rfl
  rw [e,Be4] at ih;have next:∀ l,l=2::(esc (v.Str.toList.take k)++esc [b])->L4 v l k φ:=by
   rintro _ rfl;apply L4_step;rw [Aa4 (by omega)];exact ih
  split
  ·rename_i h0;refine ⟨by simp only [List.length_append,List.length_cons,List.length_nil];omega,next _ ?_⟩;simp [esc,h0]
  ·rename_i h0;exact next _ (by simp [esc,h0])
theorem spec {v:api_Value} (hv:Ab0 v=true):C v (keyW v,0):=by
 obtain ⟨r,h1,h2⟩:=enter v (fun r=>r=(keyW v,0)) (by
  refine ⟨_,q93_.spec,?_⟩;rw [if_pos hv];have hc:=Afh hv;have hk:0<=v.Kind/\v.Kind<=3:=by rcases hc with h | h | h | h<;>omega
  have ek:IntKind.wrap .u8 v.Kind=v.Kind:=by rw [IntKind.wrap_u8];omega
  have two:∀ b,(v.Kind=1∨v.Kind=3)->L2 v b fun r=>r=(keyW v,0):=by
   intro b hb;apply L2_step;rw [ek];have e:keyJ v=[v.Kind]++be 8 (Agx v.Num):=by simp [keyJ,hb]
   refine ⟨_,q90_.spec (by simp),?_,?_⟩
   ·rw [← e];exact Ars hv
   ·rw [← e];rfl
  have three:¬ (v.Kind=1∨v.Kind=3)->L3 v fun r=>r=(keyW v,0):=by
   intro hb;apply L3_step;rw [ek]
   split
   ·rename_i h2;have hs:v.Str.toList.length<=200:=by
     rcases hc with h | h | h | h
     ·omega
     ·omega
     ·exact h.2.2
     ·omega
    have:=loop (φ:=fun r=>r=(keyW v,0)) h2 hs rfl v.Str.toList 0 rfl (by omega);rw [h2];simpa [esc] using this
   ·rename_i h2;refine ⟨fun x hx=>by simp at hx;omega,?_⟩;simp [keyW,keyJ,hb,h2]
  split
  ·rename_i h1;exact two _ (.inl h1)
  ·rename_i h1
   split
   ·rename_i h3;exact two _ (.inr h3)
   ·rename_i h3;exact three (by omega))
 rw [← h1];exact h2
end q98_
def b8 (x:Int):UInt8:=UInt8.ofNat x.toNat
theorem Bhu {x y:Int} (hx:0<=x/\x<256) (hy:0<=y/\y<256) (h:b8 x=b8 y):x=y:=by
 unfold b8 at h;have:=congrArg UInt8.toNat h;simp at this;omega
theorem As3:∀ {l m:List Int},(∀ x∈l,0<=x/\x<256)->(∀ x∈m,0<=x/\x<256)->l.map b8=m.map b8->l=m
 | [],[],_,_,_=>rfl
 | [],_::_,_,_,h=>by simp at h
 | _::_,[],_,_,h=>by simp at h
 | x::l,y::m,h1,h2,h=>by
  simp only [List.map_cons,List.cons.injEq] at h;rw [Bhu (h1 x (by simp)) (h2 y (by simp)) h.1,As3 (fun z hz=>h1 z (by simp [hz])) (fun z hz=>h2 z (by simp [hz])) h.2]
theorem Aug {v:api_Value}:(keyW v).data.toList=(keyJ v).map b8:=by
 unfold keyW Am9 b8;simp
theorem Bcd {v:api_Value}:(keyW v).size=(keyJ v).length:=by
 have:(keyW v).size=(keyW v).data.toList.length:=rfl;rw [this,Aug,List.length_map]
def Aex (l:List api_Value):List Int:=l.flatMap keyJ
theorem Apu {l:List api_Value} (h:∀ v∈l,Ab0 v=true):∀ x∈Aex l,0<=x/\x<256:=by
 intro x hx;obtain ⟨v,hv,hx⟩:=List.mem_flatMap.1 hx;exact Ars (h v hv) x hx
theorem Auh:∀ {l m:List api_Value},l.length=m.length->(∀ v∈l,Ab0 v=true/\Aik v)->(∀ v∈m,Ab0 v=true/\Aik v)->Aex l=Aex m->l=m
 | [],[],_,_,_,_=>rfl
 | [],_::_,h,_,_,_=>by simp at h
 | _::_,[],h,_,_,_=>by simp at h
 | v::l,w::m,hl,h1,h2,h=>by
  simp only [Aex,List.flatMap_cons] at h;have a:=h1 v (by simp);have b:=h2 w (by simp);obtain ⟨e1,e2⟩:=Bef a.1 b.1 a.2 b.2 h;rw [e1,Auh (by simpa using hl) (fun z hz=>h1 z (by simp [hz])) (fun z hz=>h2 z (by simp [hz])) e2]
def Aey (l:List api_Value):ByteArray:=bstr ((Aex l).map b8)
theorem Bcf {l m:List api_Value} (hl:l.length=m.length) (h1:∀ v∈l,Ab0 v=true/\Aik v) (h2:∀ v∈m,Ab0 v=true/\Aik v):Aey l=Aey m↔l=m:=by
 constructor
 ·intro h;have h3:(Aex l).map b8=(Aex m).map b8:=by
   have:=congrArg ByteArray.toList h;unfold Aey at this
   rwa [Ayo,Ayo] at this
  exact Auh hl h1 h2 (As3 (Apu fun v hv=>(h1 v hv).1) (Apu fun v hv=>(h2 v hv).1) h3)
 ·rintro rfl;rfl
def pick (l:List api_Value) (n:Nat):List api_Value:=(Aaa n).filterMap fun i=>l[i]?
def Avy (a b:List api_Value) (n:Nat):Bool:=decide (pick a n=pick b n)
theorem Bf8 {a b:List api_Value} (hl:a.length=b.length):∀ {l:List Nat},(l.filterMap fun i=>a[i]?)=(l.filterMap fun i=>b[i]?)↔∀ i∈l,a[i]? = b[i]?
 | []=>by simp
 | k::l=>by
  have ih:=Bf8 (a:=a) (b:=b) hl (l:=l);by_cases h:k<a.length
  ·have e1:=List.getElem?_eq_getElem h;have e2:=List.getElem?_eq_getElem (l:=b) (i:=k) (by omega);simp only [List.filterMap_cons,e1,e2,List.cons.injEq,ih,List.forall_mem_cons,zJ]
  ·have e1:a[k]? = none:=List.getElem?_eq_none (by omega);have e2:b[k]? = none:=List.getElem?_eq_none (by omega);simp only [List.filterMap_cons,e1,e2,ih,List.forall_mem_cons,true_and]
theorem Bbi {a b:List api_Value} {n:Nat} (hn:n<2^32) (hl:a.length=b.length):Avy a b n=true↔∀ i,n.testBit i=true->a[i]? = b[i]?:=by
 unfold Avy pick;rw [decide_eq_true_iff,Bf8 hl];constructor
 ·exact fun h i hi=>h i ((Abs hn).2 hi)
 ·exact fun h i hi=>h i ((Abs hn).1 hi)
theorem Amo {l:List api_Value} {n:Nat}:∀ v∈pick l n,v∈l:=by
 intro v hv;obtain ⟨i,_,hi⟩:=List.mem_filterMap.1 hv;exact List.mem_of_getElem? hi
structure TV (t:api_Table):Prop where
 name:Ai3 t.Name=true
 na:t.Attrs.length<=16
 nr:t.Rows.length<=1000
 names:Ag1 t.Attrs=true
 rows:Adj t.Attrs.length 0 t.Rows=0
theorem Aiv {t:api_Table}:Ajz t=0↔TV t:=by
 unfold Ajz;constructor
 ·intro h
  split at h
  ·split at h
   ·cases h
   ·split at h
    ·cases h
    ·split at h
     ·rename_i h1 h2 h3 h4;exact ⟨h1,by omega,by omega,h4,h⟩
     ·cases h
  ·cases h
 ·intro h;rw [if_pos h.name,if_neg (by have:=h.na;omega),if_neg (by have:=h.nr;omega),if_pos h.names];exact h.rows
theorem Ako {n:Nat}:∀ {l:List api_Row} {last:Int},Adj n last l=0->∀ r∈l,r.Values.length=n/\(∀ v∈r.Values,Ab0 v=true)/\last<r.ID
 | [],_,_,r,hr=>by cases hr
 | a::l,last,h,r,hr=>by
  simp only [Adj] at h
  split at h
  ·cases h
  ·split at h
   ·split at h
    ·rename_i h1 h2 h3;unfold Aew at h3;rw [List.all_eq_true] at h3;rcases List.mem_cons.1 hr with rfl | hr
     ·exact ⟨h2,h3,by omega⟩
     ·obtain ⟨e1,e2,e3⟩:=Ako h r hr;exact ⟨e1,e2,by omega⟩
    ·cases h
   ·cases h
theorem TV.len {t:api_Table} (h:TV t) {r:api_Row} (hr:r∈t.Rows):r.Values.length=t.Attrs.length:=(Ako h.rows r hr).1
theorem TV.val {t:api_Table} (h:TV t) {r:api_Row} (hr:r∈t.Rows):∀ v∈r.Values,Ab0 v=true:=(Ako h.rows r hr).2.1
def TNum (t:api_Table):Prop:=∀ r∈t.Rows,∀ v∈r.Values,Aik v
theorem Ayr:∀ {a b:List UInt8},Lib.compareBytes a b=cmpL a b
 | [],[]=>rfl
 | [],_::_=>rfl
 | _::_,[]=>rfl
 | a::r,b::s=>by
  rw [Lib.compareBytes,cmpL,Ayr (a:=r) (b:=s)];have lt:∀ {x y:UInt8},x<y↔u8i x<u8i y:=fun {x y}=>by
   unfold u8i;rw [UInt8.lt_iff_toNat_lt];omega
  by_cases h:a=b
  ·subst h;rw [if_neg (by rw [lt];omega),if_neg (by rw [lt];omega),if_pos rfl]
  ·rw [if_neg h];unfold cmpI;by_cases h1:a<b
   ·rw [if_pos h1,if_pos (lt.1 h1)]
   ·rw [if_neg h1,if_neg (fun hh=>h1 (lt.2 hh))];have h2:b<a:=by
     rw [lt] at h1 ⊢;have:u8i a≠u8i b:=fun hh=>h (Aph.1 hh);omega
    rw [if_pos h2,if_pos (lt.1 h2)]
theorem Bfk {a b:ByteArray}:bcmp a b=cmpS a b:=by
 unfold bcmp cmpS;rw [Ayr,Am7,Am7]
theorem Az4 {x:Int}:q84_.C x false:=by
 obtain ⟨r,h1,h2⟩:=q84_.enter x (fun r=>r=false) (by simp);rw [← h1];exact h2
theorem Ao7 {x:Int}:q67_.C x false:=by
 obtain ⟨r,h1,h2⟩:=q67_.enter x (fun r=>r=false) (by simp);rw [← h1];exact h2
theorem Axy {x y:Int}:q71_.C x y (cmpI x y):=by
 obtain ⟨r,h1,h2⟩:=q71_.enter x y (fun r=>r=cmpI x y) ⟨_,Az4,_,Az4,by
  rw [if_neg Bool.false_ne_true,if_neg Bool.false_ne_true];unfold cmpI
  split
  ·rfl
  ·split<;>rfl⟩
 rw [← h1];exact h2
theorem An1 {x y:Int}:q49_.C x y (cmpI x y):=by
 obtain ⟨r,h1,h2⟩:=q49_.enter x y (fun r=>r=cmpI x y) ⟨_,Ao7,_,Ao7,by
  rw [if_neg Bool.false_ne_true,if_neg Bool.false_ne_true];unfold cmpI
  split
  ·rfl
  ·split<;>rfl⟩
 rw [← h1];exact h2
theorem q72_.spec {a b:ByteArray}:q72_.C a b (cmpS a b):=by
 obtain ⟨q,g1,g2⟩:=q32_.enter a b (fun r=>r=cmpS a b) Bfk;obtain ⟨r,h1,h2⟩:=q72_.enter a b (fun r=>r=cmpS a b) ⟨_,g2,g1⟩;rw [← h1];exact h2
theorem Axz {a b c:Int}:q96_.C [a,b,c] (if a=0 then (if b=0 then c else b) else a):=by
 obtain ⟨r,h1,h2⟩:=q96_.enter [a,b,c] (fun r=>r=if a=0 then (if b=0 then c else b) else a) (by
  have e0:IntKind.wrap .i64 ((0:Int)+1)=1:=by decide
  have e1:IntKind.wrap .i64 ((1:Int)+1)=2:=by decide
  have e2:IntKind.wrap .i64 ((2:Int)+1)=3:=by decide
  apply q96_.L1_step;rw [if_pos (by simp)];refine ⟨a,rfl,?_⟩;by_cases ha:a=0
  ·rw [if_pos ha,if_pos ha,e0];apply q96_.L1_step;rw [if_pos (by simp)];refine ⟨b,rfl,?_⟩;by_cases hb:b=0
   ·rw [if_pos hb,if_pos hb,e1];apply q96_.L1_step;rw [if_pos (by simp)];refine ⟨c,rfl,?_⟩;by_cases hc:c=0
    ·rw [if_pos hc,e2];apply q96_.L1_step;rw [if_neg (by simp)];exact hc.symm
    ·rw [if_neg hc]
   ·rw [if_neg hb,if_neg hb]
  ·rw [if_neg ha,if_neg ha])
 rw [← h1];exact h2
theorem q85_.spec {a b:api_Value}:q85_.C a b (cmpV a b):=by
 obtain ⟨r,h1,h2⟩:=q85_.enter a b (fun r=>r=cmpV a b) ⟨_,Axy,_,An1,_,q72_.spec,_,Axz,by
  unfold cmpV;rfl⟩
 rw [← h1];exact h2
def ofV (c:Nat):api_Value:=
 match c % 12 with
 | 0=>⟨1,0,⟨#[]⟩⟩
 | 1=>⟨1,1,⟨#[]⟩⟩
 | 2=>⟨1,2,⟨#[]⟩⟩
 | 3=>⟨0,0,⟨#[]⟩⟩
 | 4=>⟨2,0,⟨#[97]⟩⟩
 | 5=>⟨2,0,⟨#[98]⟩⟩
 | 6=>⟨2,0,⟨#[]⟩⟩
 | 7=>⟨3,1,⟨#[]⟩⟩
 | 8=>⟨1,-1,⟨#[]⟩⟩
 | 9=>⟨2,0,⟨#[97,98]⟩⟩
 | 10=>⟨3,2,⟨#[]⟩⟩
 | _=>⟨1,7,⟨#[]⟩⟩
theorem Bcp (c:Nat):Ab0 (ofV c)=true/\Aik (ofV c):=by
 have e1:((⟨#[97]⟩:ByteArray)).toList=[97]:=Am8 (l:=[97]);have e2:((⟨#[98]⟩:ByteArray)).toList=[98]:=Am8 (l:=[98]);have e3:((⟨#[97,98]⟩:ByteArray)).toList=[97,98]:=Am8 (l:=[97,98]);unfold ofV Aik Ab0
 split<;>simp [Aw3,e1,e2,e3]
namespace q86_
theorem spec (c:Nat):C c (ofV c):=by
 obtain ⟨r,h1,h2⟩:=enter c (fun r=>r=ofV c) (by
  have e:Int.tmod (c:Int) 12=((c % 12:Nat):Int):=rfl;rw [e];unfold ofV;have hc:c % 12<12:=Nat.mod_lt _ (by decide);generalize c % 12=m at hc
  match m,hc with
  | 0,_=>rfl
  | 1,_=>rfl
  | 2,_=>rfl
  | 3,_=>rfl
  | 4,_=>rfl
  | 5,_=>rfl
  | 6,_=>rfl
  | 7,_=>rfl
  | 8,_=>rfl
  | 9,_=>rfl
  | 10,_=>rfl
  | 11,_=>rfl)
 rw [← h1];exact h2
end q86_
def Ajj:List ByteArray:=[⟨#[97]⟩,⟨#[98]⟩,⟨#[99]⟩,⟨#[100]⟩,⟨#[101]⟩,⟨#[102]⟩,⟨#[103]⟩,⟨#[104]⟩]
structure RecOK (x:drossref03_Recipe):Prop where
 at_:0<=x.Attrs/\x.Attrs<256
 gap:0<=x.Gap/\x.Gap<256
 code:∀ r∈x.Rows,∀ c∈r,0<=c/\c<256
def Ano (r:List Int) (k:Nat):Nat:=((r[k]?).getD 0).toNat
def Adc (r:List Int) (n:Nat):List api_Value:=(List.range n).map fun k=>ofV (Ano r k)
def Ad0 (x:drossref03_Recipe) (n:Nat):api_Table:=⟨⟨#[114]⟩,Ajj.take n,x.Rows.zipIdx.map fun p=>⟨1+(p.2:Int)*(1+x.Gap % 3),Adc p.1 n⟩⟩
namespace q73_
theorem inner {x:drossref03_Recipe} {n:Nat} {φ:api_Table->Prop} {acc:List api_Row} {i:Nat} {id:Int} {r:List Int} (hn:n<=8) (hx:RecOK x) (hr:x.Rows[i]? = some r) (hi:i<10000) (hacc:acc.length<=10000)
  (h:L1 x n (acc++[⟨id,Adc r n⟩]) ((i+1:Nat):Int) φ):∀ k,k<=n->L2 x n acc i id (Adc r k) k φ:=by
 refine down ?_ ?_
 ·apply L2_step;rw [if_neg (by omega),Aa4 (by omega)];exact ⟨by omega,h⟩
 ·intro k hk h;apply L2_step;rw [if_pos (by omega)];have e:Adc r (k+1)=Adc r k++[ofV (Ano r k)]:=by simp [Adc,List.range_succ]
  rw [e] at h;have next:∀ c:Int,c=(Ano r k:Int)->L3 x n acc i id (Adc r k) k c φ:=by
   rintro _ rfl;apply L3_step;refine ⟨_,q86_.spec _,by simp [Adc];omega,?_⟩;rw [Aa4 (by omega)];exact h
  refine ⟨r,Abx hr,?_⟩
  split
  ·rename_i hlt;have hlt:k<r.length:=by omega
   have hg:=List.getElem?_eq_getElem hlt;refine ⟨r[k],Abx hg,next _ ?_⟩;have:=hx.code r (List.mem_of_getElem? hr) r[k] (List.getElem_mem hlt);unfold Ano;rw [hg];simp;omega
  ·rename_i hlt;refine next _ ?_;unfold Ano;rw [List.getElem?_eq_none (by omega)];rfl
theorem spec {x:drossref03_Recipe} {n:Nat} (hn:n<=8) (hx:RecOK x) (hr:x.Rows.length<=10000):C x n (Ad0 x n):=by
 obtain ⟨r,h1,h2⟩:=enter x n (fun r=>r=Ad0 x n) (by
  refine ⟨by omega,by simp;omega,by simp;omega,by simp;omega,?_⟩;have loop:∀ i,i<=x.Rows.length->L1 x n ((x.Rows.zipIdx.take i).map fun p=>(⟨1+(p.2:Int)*(1+x.Gap % 3),Adc p.1 n⟩:api_Row)) i fun r=>r=Ad0 x n:=by
   refine down ?_ ?_
   ·apply L1_step;rw [if_neg (by omega),List.take_of_length_le (l:=x.Rows.zipIdx) (by simp)];simp only [Int.toNat_natCast,Nat.sub_zero,List.drop_zero];rfl
   ·intro i hi h;apply L1_step;rw [if_pos (by omega)];have hg:=List.getElem?_eq_getElem hi;generalize x.Rows[i]=row at hg;have hg2:x.Rows.zipIdx[i]? = some (row,i):=by rw [List.getElem?_zipIdx,hg];simp
    rw [List.take_add_one,hg2] at h;have g:=hx.gap;have e0:Int.tmod x.Gap 3=x.Gap % 3:=by rw [Int.tmod_eq_emod_of_nonneg g.1]
    have hp:0<=(i:Int)*(1+x.Gap % 3)/\(i:Int)*(1+x.Gap % 3)<=30000:=by
     have h3:x.Gap % 3=0∨x.Gap % 3=1∨x.Gap % 3=2:=by omega
     rcases h3 with h | h | h<;>rw [h]<;>omega
    rw [e0,Ac7 (x:=x.Gap % 3) (by omega) (by omega),Ac7 (x:=1+x.Gap % 3) (by omega) (by omega),Ac7 (x:=(i:Int)*(1+x.Gap % 3)) (by omega) (by omega),Ac7 (x:=1+(i:Int)*(1+x.Gap % 3)) (by omega) (by omega)];refine inner (r:=row) hn hx hg (by omega) (by simp;omega) ?_ 0 (Nat.zero_le _);simpa using h
  have:=loop 0 (Nat.zero_le _)
  simpa using this)
 rw [← h1];exact h2
end q73_
def tabF (x:drossref03_Recipe) (most:Nat):api_Table×Bool:=if x.Rows.length<=most then (Ad0 x (x.Attrs % 6).toNat,true) else (⟨⟨#[]⟩,[],[]⟩,false)
theorem q58_.spec {x:drossref03_Recipe} {most:Nat} (hm:most<=10000) (hx:RecOK x):q58_.C x most (tabF x most):=by
 obtain ⟨r,h1,h2⟩:=q58_.enter x most (fun r=>r=tabF x most) (by
  unfold tabF
  split
  ·rw [if_neg (by omega)]
  ·rw [if_pos (by omega)];have:=hx.at_;have e:IntKind.wrap .i64 (Int.tmod x.Attrs 6)=(((x.Attrs % 6).toNat:Nat):Int):=by
    rw [Int.tmod_eq_emod_of_nonneg this.1,Ac7 (by omega) (by omega)];omega
   rw [e]
   exact ⟨_,q73_.spec (by omega) hx (by omega),rfl⟩)
 rw [← h1];exact h2
theorem Bfb {b:UInt8} (h:letB (u8i b)=true):Ai3 ⟨#[b]⟩=true:=by
 have e:((⟨#[b]⟩:ByteArray)).toList=[b]:=Am8 (l:=[b]);unfold Ai3;rw [e];simp [Acz,h,As6]
theorem Bco:∀ n,n<=8->Ag1 (Ajj.take n)=true:=by
 have hn:∀ b:UInt8,letB (u8i b)=true->Ai3 ⟨#[b]⟩=true:=fun b h=>Bfb h;have hne:∀ a b:UInt8,a≠b->eqS ⟨#[a]⟩ ⟨#[b]⟩=false:=by
  intro a b h;unfold eqS;rw [decide_eq_false_iff_not];intro e;have:=congrArg (fun x:ByteArray=>x.data.toList) e;simp at this;exact h this.symm
 intro n hn8;have key:Ag1 Ajj=true:=by
  unfold Ag1 Ajj;simp only [Afr,List.nil_append,List.cons_append,List.any_nil,List.any_cons];rw [hn 97 (by decide),hn 98 (by decide),hn 99 (by decide),hn 100 (by decide),hn 101 (by decide),hn 102 (by decide),hn 103 (by decide),hn 104 (by decide)];simp [hne]
 have pre:∀ (l pre:List ByteArray) (m:Nat),Afr pre l=true->Afr pre (l.take m)=true:=by
  intro l
  induction l with
  | nil=>intro pre m h;simpa using h
  | cons a l ih=>
   intro pre m h;cases m with
   | zero=>rfl
   | succ m=>
    simp only [List.take_succ_cons,Afr,Bool.and_eq_true] at h ⊢;exact ⟨h.1,ih _ _ h.2⟩
 exact pre _ _ _ key
theorem Ase {n:Nat} {g:Int} (hg:0<=g):∀ (l:List (List Int)) (i:Nat) (last:Int),last<1+(i:Int)*(1+g)->Adj n last ((l.zipIdx i).map fun p=>(⟨1+(p.2:Int)*(1+g),Adc p.1 n⟩:api_Row))=0
 | [],_,_,_=>rfl
 | r::l,i,last,h=>by
  simp only [List.zipIdx_cons,List.map_cons,Adj];rw [if_neg (by omega),if_pos (by simp [Adc]),if_pos]
  ·refine Ase hg l (i+1) _ ?_;have:((i+1:Nat):Int)*(1+g)=(i:Int)*(1+g)+(1+g):=by rw [Int.natCast_add,Int.add_mul];simp
   omega
  ·unfold Aew Adc;rw [List.all_eq_true];intro v hv;obtain ⟨k,_,rfl⟩:=List.mem_map.1 hv;exact (Bcp _).1
theorem Bba {x:drossref03_Recipe} {n:Nat} (hn:n<=8) (hx:RecOK x) (hr:x.Rows.length<=1000):TV (Ad0 x n):=by
 have hl:(Ajj.take n).length=n:=by simp [Ajj];omega
 refine ⟨Bfb (by decide),by simp only [Ad0,hl];omega,by simp [Ad0];omega,Bco n hn,?_⟩;simp only [Ad0,hl];have g:=hx.gap;exact Ase (by omega) x.Rows 0 0 (by omega)
theorem Bf5 {x:drossref03_Recipe} {n:Nat}:TNum (Ad0 x n):=by
 intro r hr v hv;simp only [Ad0] at hr;obtain ⟨p,_,rfl⟩:=List.mem_map.1 hr;simp only [Adc] at hv;obtain ⟨k,_,rfl⟩:=List.mem_map.1 hv;exact (Bcp _).2
theorem Bb9 {x:drossref03_Recipe} {n:Nat} (hn:n<=8):(Ad0 x n).Attrs.length=n:=by simp [Ad0,Ajj];omega
abbrev nI (l:List Nat):List Int:=l.map fun (j:Nat)=>(j:Int)
theorem Awz {X:List Nat} {k j:Nat} (h:X[k]? = some j):(nI X)[k]? = some (j:Int):=by rw [List.getElem?_map,h];rfl
def vAt (r:api_Row) (i:Nat):api_Value:=(r.Values[i]?).getD ⟨0,0,⟨#[]⟩⟩
theorem Ahr {r:api_Row} {i:Nat} (h:i<r.Values.length):r.Values[i]? = some (vAt r i):=by
 unfold vAt;rw [List.getElem?_eq_getElem h];rfl
def FdOK (l:List api_FD):Prop:=∀ d∈l,U32 d.Lhs/\U32 d.Rhs
def inU (n:Nat) (l r:Int):Bool:=decide (sN l<2^n)&&decide (sN r<2^n)
theorem Bkv {n:Nat} {l r:Int} (hl:U32 l) (hr:U32 r):(shrw .u32 (bOr .u32 l r) (n:Int)=0)↔inU n l r=true:=by
 rw [hl.eq,hr.eq,Asw hl.top hr.top,Ahq (Nat.or_lt_two_pow hl.top hr.top)];unfold inU;rw [Bool.and_eq_true,decide_eq_true_iff,decide_eq_true_iff];have e1:sN (sN l:Int)=sN l:=by unfold sN;omega
 have e2:sN (sN r:Int)=sN r:=by unfold sN;omega
 rw [e1,e2,← Bl6,← Be1];omega
def fdsE (n:Int) (l:List api_FD):Int:=if n<0∨16<n then 7 else if 64<l.length then 3 else if (l.all fun d=>inU n.toNat d.Lhs d.Rhs)=true then 0 else 1
theorem Bdi {α:Type} {l:List α} {p:α->Bool} {L:Int->Prop} {φ:Int->Prop} (stop:φ 0->L (l.length:Int))
  (step:∀ (k:Nat) a,l[k]? = some a->k<l.length->(if p a=true then L ((k+1:Nat):Int) else φ 1)->L k) (h:φ (if l.all p=true then 0 else 1)):L 0:=
 Am2 (l:=l) (p:=p) (L:=L) (φ:=fun b=>φ (if b=true then 0 else 1)) (fun h=>stop (by simpa using h)) (fun k a ha hk h=>step k a ha hk (by simpa using h)) h
theorem q87_.spec {n:Int} {l:List api_FD} (hl:FdOK l):q87_.C n l (fdsE n l):=by
 obtain ⟨r,h1,h2⟩:=q87_.enter n l (fun r=>r=fdsE n l) (by
  by_cases a:n<0∨16<n
  ·have e:fdsE n l=7:=if_pos a;rw [e];by_cases b:n<0
   ·rw [if_pos b]
   ·rw [if_neg b,if_pos (by omega)]
  ·rw [if_neg (by omega),if_neg (by omega)];by_cases b:64<l.length
   ·have e:fdsE n l=3:=by unfold fdsE;rw [if_neg a,if_pos b]
    rw [e,if_pos (by omega)]
   ·have e:fdsE n l=if (l.all fun d=>inU n.toNat d.Lhs d.Rhs)=true then 0 else 1:=by unfold fdsE;rw [if_neg a,if_neg b]
    rw [e,if_neg (by omega)]
    ·obtain ⟨m,rfl⟩:∃ m:Nat,n=m:=⟨n.toNat,by omega⟩
     refine Bdi (l:=l) (p:=fun d=>inU m d.Lhs d.Rhs) (L:=fun i=>q87_.L1 m l i _) (φ:=fun r=>r=_) ?_ ?_ rfl
     ·intro h;apply q87_.L1_step;rw [if_neg (by omega)];exact h
     ·intro k d hd hk h;apply q87_.L1_step;rw [if_pos (by omega)];refine ⟨d,Abx hd,by omega,?_⟩;have hd':=hl d (List.mem_of_getElem? hd);have e:=Bkv (n:=m) hd'.1 hd'.2;rw [Aa4 (by omega)]
      split
      ·rename_i hh;rw [if_pos (e.1 hh)] at h;exact h
      ·rename_i hh;rw [if_neg (fun h3=>hh (e.2 h3))] at h;exact h)
 rw [← h1];exact h2
def Aeo (t:api_Table) (n:Nat):List (List api_Value):=t.Rows.map fun r=>pick r.Values n
theorem Afd {t:api_Table} {n:Nat}:(Aeo t n).length=t.Rows.length:=by simp [Aeo]
theorem Beu {t:api_Table} (ht:TV t) {n i j:Nat} (hn:n<2^32) (hi:i<t.Rows.length) (hj:j<t.Rows.length):(Aeo t n)[i]? = (Aeo t n)[j]?↔∀ k,n.testBit k=true->(t.Rows[i]'hi).Values[k]? = (t.Rows[j]'hj).Values[k]?:=by
 unfold Aeo;rw [List.getElem?_map,List.getElem?_map,List.getElem?_eq_getElem hi,List.getElem?_eq_getElem hj];simp only [Option.map_some,zJ];rw [← Bbi hn (by rw [ht.len (List.getElem_mem hi),ht.len (List.getElem_mem hj)])];unfold Avy;rw [decide_eq_true_iff]
def OkP (t:api_Table) (l r i k:Nat):Prop:=(Aeo t l)[i]? = (Aeo t l)[k]?->(Aeo t r)[i]? = (Aeo t r)[k]?
def SatP (t:api_Table) (l r:Nat):Prop:=∀ i k,i<t.Rows.length->k<i->OkP t l r i k
theorem SatP.all {t:api_Table} {l r:Nat} (h:SatP t l r) {i k:Nat} (hi:i<t.Rows.length) (hk:k<t.Rows.length):OkP t l r i k:=by
 rcases Nat.lt_trichotomy i k with h1 | h1 | h1
 ·exact fun e=>(h k i hk h1 e.symm).symm
 ·subst h1;exact fun _=>rfl
 ·exact h i k hi h1
def EqA (t:api_Table) (i k a:Nat):Prop:=(t.Rows[i]?.map fun r=>r.Values[a]?)=(t.Rows[k]?.map fun r=>r.Values[a]?)
instance (t:api_Table) (i k a:Nat):Decidable (EqA t i k a):=by unfold EqA;infer_instance
theorem Amn {t:api_Table} (ht:TV t) {n i j:Nat} (hn:n<2^32) (hi:i<t.Rows.length) (hj:j<t.Rows.length):(Aeo t n)[i]? = (Aeo t n)[j]?↔∀ k,n.testBit k=true->EqA t i j k:=by
 rw [Beu ht hn hi hj];unfold EqA;rw [List.getElem?_eq_getElem hi,List.getElem?_eq_getElem hj];simp only [Option.map_some,zJ]
theorem Bhj {t:api_Table} (ht:TV t) {l r:Nat} (hl:l<2^32) (hr:r<2^32):SatP t l r↔∀ i k,i<t.Rows.length->k<i->(∀ a,l.testBit a=true->EqA t i k a)->∀ a,r.testBit a=true->EqA t i k a:=by
 unfold SatP OkP;constructor
 ·intro h i k hi hk;have:=h i k hi hk;rw [Amn ht hl hi (by omega),Amn ht hr hi (by omega)] at this;exact this
 ·intro h i k hi hk;rw [Amn ht hl hi (by omega),Amn ht hr hi (by omega)];exact h i k hi hk
theorem Arm {n:Nat}:∀ {l:List api_Row} {last:Int},Adj n last l=0->l.Pairwise (fun a b=>a.ID<b.ID)
 | [],_,_=>.nil
 | r::l,last,h=>by
  have h':Adj n r.ID l=0:=by
   simp only [Adj] at h
   split at h
   ·cases h
   ·split at h
    ·split at h
     ·exact h
     ·cases h
    ·cases h
  exact .cons (fun x hx=>(Ako h' x hx).2.2) (Arm h')
def Pr {ρ:Type} (rows:List ρ) (a b:ρ):Prop:=∃ i k:Nat,i<k/\rows[i]? = some a/\rows[k]? = some b
section
variable {t:api_Table} {X Y:List Nat} (hT:TV t) (hx:∀ i∈X,i<t.Attrs.length) (hX:X.length<=8) (hy:∀ i∈Y,i<t.Attrs.length) (hY:Y.length<=8)
include hT hx hX hy hY
end
theorem Bc1 {a b:List api_Value} (hl:a.length=b.length):∀ {l:List Nat},(l.filterMap fun i=>a[i]?).length=(l.filterMap fun i=>b[i]?).length
 | []=>rfl
 | k::l=>by
  have ih:=Bc1 (a:=a) (b:=b) hl (l:=l);by_cases h:k<a.length
  ·have e1:=List.getElem?_eq_getElem h;have e2:=List.getElem?_eq_getElem (l:=b) (i:=k) (by omega);simp only [List.filterMap_cons,e1,e2,List.length_cons,ih]
  ·have e1:a[k]? = none:=List.getElem?_eq_none (by omega);have e2:b[k]? = none:=List.getElem?_eq_none (by omega);simp only [List.filterMap_cons,e1,e2,ih]
def ofP (t:api_Table) (n:Nat):api_Partition:=part (Aeo t n)
theorem Beq {t:api_Table} {n:Nat} (h:TV t) (hn:TNum t):part (t.Rows.map fun r=>Aey (pick r.Values n))=ofP t n:=by
 unfold ofP Aeo;refine Bd9 (by simp) fun i j hi hj=>?_;rw [List.length_map] at hi hj;rw [List.getElem?_map,List.getElem?_map,List.getElem?_map,List.getElem?_map,List.getElem?_eq_getElem hi,List.getElem?_eq_getElem hj];simp only [Option.map_some,zJ];have m1:=List.getElem_mem hi;have m2:=List.getElem_mem hj;refine Bcf (Bc1 (by rw [h.len m1,h.len m2])) (fun v hv=>?_) (fun v hv=>?_)
 ·exact ⟨h.val m1 v (Amo v hv),hn _ m1 v (Amo v hv)⟩
 ·exact ⟨h.val m2 v (Amo v hv),hn _ m2 v (Amo v hv)⟩
namespace q92_
theorem inner {t:api_Table} {n:Nat} {φ:api_Partition->Prop} {ks:List ByteArray} {k:Nat} {r:api_Row} (ht:TV t) (hn:n<2^t.Attrs.length) (hr:r∈t.Rows) (hk:k<1000) (hkk:k<ks.length)
  (h:L1 t ((Aaa n).map fun (i:Nat)=>(i:Int)) (ks.set k (Aey (pick r.Values n))) ((k+1:Nat):Int) φ):∀ j,j<=(Aaa n).length ->
  L2 t ((Aaa n).map fun (i:Nat)=>(i:Int)) ks k r ((Aex (((Aaa n).take j).filterMap fun i=>r.Values[i]?)).map b8) k j φ:=by
 have hn32:n<2^32:=Nat.lt_of_lt_of_le hn (Nat.pow_le_pow_right (by decide) (by have:=ht.na;omega));have hl:=Aej (n:=n);refine down ?_ ?_
 ·apply L2_step;rw [List.length_map,if_neg (by omega),List.take_length];refine ⟨ks[k],by rw [Ab5];exact List.getElem?_eq_getElem hkk,?_⟩;rw [Aa4 (by omega)];have e:lset ks (k:Int) (Aey (pick r.Values n))=ks.set k (Aey (pick r.Values n)):=by simp [lset]
  unfold Aey pick at e h;rw [e];exact h
 ·intro j hj h;apply L2_step;rw [List.length_map,if_pos (by omega)];have hget:=List.getElem?_eq_getElem hj;generalize (Aaa n)[j]=i at hget;have hi:=(Abs hn32).1 (List.mem_of_getElem? hget);have hilt:i<t.Attrs.length:=by
   false_or_by_contra
   rename_i hh;rw [Nat.testBit_lt_two_pow (Nat.lt_of_lt_of_le hn (Nat.pow_le_pow_right (by decide) (by omega)))] at hi;cases hi
  have hrl:=ht.len hr;have hv:=List.getElem?_eq_getElem (l:=r.Values) (i:=i) (by omega);generalize r.Values[i]'(by omega)=v at hv;have hval:=ht.val hr v (List.mem_of_getElem? hv);refine ⟨(i:Int),by rw [Ab5,List.getElem?_map,hget];rfl,v,Abx hv,(keyW v,0),q98_.spec hval,?_⟩;have hsum:∀ l:List api_Value,(∀ v∈l,Ab0 v=true)->(Aex l).length<=403*l.length:=by
   intro l
   induction l with
   | nil=>simp [Aex]
   | cons a l ih=>
    intro hh;have:=ih fun v hv=>hh v (by simp [hv]);have h2:=Awo (hh a (by simp));simp only [Aex,List.flatMap_cons,List.length_append,List.length_cons] at this ⊢;omega
  have h1:=hsum (((Aaa n).take j).filterMap fun i=>r.Values[i]?) (fun v hv=>by
   obtain ⟨i,_,hi⟩:=List.mem_filterMap.1 hv
   exact ht.val hr v (List.mem_of_getElem? hi))
  have h2:(((Aaa n).take j).filterMap fun i=>r.Values[i]?).length<=32:=Nat.le_trans (List.length_filterMap_le _ _) (by rw [List.length_take];omega);have h3:=Awo hval;refine ⟨?_,?_⟩
  ·rw [List.length_map];have:(keyW v).size=(keyJ v).length:=Bcd;simp only [this];omega
  ·rw [Aa4 (by omega)];have e:(((Aaa n).take (j+1)).filterMap fun i=>r.Values[i]?)=(((Aaa n).take j).filterMap fun i=>r.Values[i]?)++[v]:=by
    rw [List.take_add_one,hget,List.filterMap_append];simp [hv]
   rw [e] at h;simp only [Aex,List.flatMap_append,List.map_append] at h;rw [Aug];simpa [Aex] using h
theorem spec {t:api_Table} {n:Nat} (ht:TV t) (hnum:TNum t) (hn:n<2^t.Attrs.length):C t n (ofP t n):=by
 have hn32:n<2^32:=Nat.lt_of_lt_of_le hn (Nat.pow_le_pow_right (by decide) (by have:=ht.na;omega));have hr:=ht.nr;obtain ⟨q,h1,h2⟩:=enter t n (fun q=>q=ofP t n) (by
  refine ⟨_,q69_.spec hn32,by omega,?_⟩;have loop:∀ k,k<=t.Rows.length->L1 t ((Aaa n).map fun (i:Nat)=>(i:Int)) ((t.Rows.take k).map (fun r=>Aey (pick r.Values n))++List.replicate (t.Rows.length-k) (⟨#[]⟩:ByteArray)) k fun q=>q=ofP t n:=by
   refine down ?_ ?_
   ·apply L1_step;rw [if_neg (by omega),List.take_length,Nat.sub_self,List.replicate_zero,List.append_nil];refine ⟨_,q38_.spec (by rw [List.length_map];omega),?_⟩;rw [← Beq ht hnum];simp [part]
   ·intro k hk h;apply L1_step;rw [if_pos (by omega)];have hget:=List.getElem?_eq_getElem hk;generalize t.Rows[k]=r at hget;refine ⟨r,Abx hget,?_⟩;have:=inner (t:=t) (n:=n) (φ:=fun q=>q=ofP t n) (ks:=(t.Rows.take k).map (fun r=>Aey (pick r.Values n))++List.replicate (t.Rows.length-k) (⟨#[]⟩:ByteArray)) (k:=k) (r:=r) ht hn (List.mem_of_getElem? hget) (by omega) (by simp [List.length_take];omega) (by
     have e:((t.Rows.take k).map (fun r=>Aey (pick r.Values n))++List.replicate (t.Rows.length-k) (⟨#[]⟩:ByteArray)).set k (Aey (pick r.Values n))=(t.Rows.take (k+1)).map (fun r=>Aey (pick r.Values n))++List.replicate (t.Rows.length-(k+1)) (⟨#[]⟩:ByteArray):=by
      have hl:((t.Rows.take k).map (fun r=>Aey (pick r.Values n))).length=k:=by rw [List.length_map,List.length_take];omega
      obtain ⟨m,hm⟩:∃ m,t.Rows.length-k=m+1:=⟨t.Rows.length-k-1,by omega⟩
      rw [List.set_append_right _ _ (by omega),hl,Nat.sub_self,hm,List.replicate_succ,List.set_cons_zero,List.take_add_one,hget];have:t.Rows.length-(k+1)=m:=by omega
      rw [this];simp
     rw [e];exact h) 0 (Nat.zero_le _)
    simpa [Aex] using this
  have:=loop 0 (Nat.zero_le _)
  simpa using this)
 rw [← h1];exact h2
end q92_
theorem q65_.spec {t:api_Table} {n:Nat} (hn:n<2^32):q65_.C t n (decide (n<2^t.Attrs.length)):=by
 obtain ⟨q,h1,h2⟩:=q65_.enter t n (fun q=>q=decide (n<2^t.Attrs.length)) (by
  refine ⟨by omega,?_⟩;have hn64:n<2^top .u64:=Nat.lt_of_lt_of_le hn (by decide);rw [Adh hn64,Ahq hn64];have:(((n / 2^t.Attrs.length:Nat):Int)=0)↔n<2^t.Attrs.length:=by
   have hp:0<2^t.Attrs.length:=Nat.pos_of_ne_zero (by simp);constructor
   ·intro h;have h2:n / 2^t.Attrs.length=0:=by omega
    rw [Nat.div_eq_zero_iff] at h2;omega
   ·intro h;rw [Nat.div_eq_of_lt h];rfl
  by_cases hh:n<2^t.Attrs.length
  ·simp [hh,this.2 hh]
  ·have h3:¬ ((n / 2^t.Attrs.length:Nat):Int)=0:=fun h=>hh (this.1 h);rw [decide_eq_false hh]
   simpa using h3)
 rw [← h1];exact h2
theorem Bde {t:api_Table} (hr:t.Rows.length<=1000) {l r:Nat}:RefP (ofP t l) (ofP t r)↔SatP t l r:=by
 have hb:Ak9 (ofP t l) (ofP t r)=0:=by
  have v1:Acf (ofP t l)=true:=Amm (by rw [Afd];exact hr);have v2:Acf (ofP t r)=true:=Amm (by rw [Afd];exact hr);have e:(ofP t l).Rows=(ofP t r).Rows:=by simp [ofP,part,Afd]
  simp [Ak9,v1,v2,e]
 have er:(ofP t l).Rows=(t.Rows.length:Int):=by simp [ofP,part,Afd]
 have key:∀ (n i j:Nat),i<t.Rows.length->j<t.Rows.length->(Same (ofP t n) i j↔(Aeo t n)[i]? = (Aeo t n)[j]?):=fun n i j hi hj=>by
  unfold ofP;rw [Bcr (by rw [Afd];omega) (by rw [Afd];omega),Ab5,Ab5]
 constructor
 ·rintro ⟨_,h⟩ i k hi hk e;exact (key r i k hi (by omega)).1 (h i k (by omega) (by omega) ((key l i k hi (by omega)).2 e))
 ·intro h;refine ⟨hb,fun i j hi hj hs=>?_⟩;obtain ⟨i,rfl⟩:∃ n:Nat,i=n:=⟨i.toNat,by omega⟩
  obtain ⟨j,rfl⟩:∃ n:Nat,j=n:=⟨j.toNat,by omega⟩
  exact (key r i j (by omega) (by omega)).2 (h.all (by omega) (by omega) ((key l i j (by omega) (by omega)).1 hs))
def Ajb (t:api_Table) (l r:Nat):Int:=if Ajz t=0 then (if l ||| r<2^t.Attrs.length then 0 else 6) else Ajz t
theorem q75_.spec {t:api_Table} {fd:api_FD} {l r:Nat} (hnum:TNum t) (el:fd.Lhs=l) (er:fd.Rhs=r) (hl:l<2^32) (hr:r<2^32):∃ q,q75_.C t fd q/\q.2=Ajb t l r/\(q.1=true↔Ajb t l r=0/\SatP t l r):=by
 obtain ⟨q,h1,h2⟩:=q75_.enter t fd (fun q=>q.2=Ajb t l r/\(q.1=true↔Ajb t l r=0/\SatP t l r)) (by
  refine ⟨_,q94_.spec,?_⟩;unfold Ajb
  split
  ·rename_i h0;have ht:=Aiv.1 h0;rw [el,er,Asw (k:=.u32) (by simpa [top] using hl) (by simpa [top] using hr)];refine ⟨_,q65_.spec (Nat.or_lt_two_pow hl hr),?_⟩;by_cases hh:l ||| r<2^t.Attrs.length
   ·rw [if_pos (decide_eq_true hh),if_pos hh];have hll:l<2^t.Attrs.length:=Nat.lt_of_le_of_lt Nat.left_le_or hh;have hrr:r<2^t.Attrs.length:=Nat.lt_of_le_of_lt Nat.right_le_or hh;have sm:∀ m,Ahv (ofP t m):=fun m=>Bal (by rw [Afd];exact ht.nr);obtain ⟨b,hb,hbi⟩:=q56_.spec (sm l) (sm r);refine ⟨_,q92_.spec ht hnum hll,_,q92_.spec ht hnum hrr,b,hb,rfl,?_⟩;rw [hbi,Bde ht.nr];simp
   ·rw [if_neg (by simpa using hh),if_neg hh];simp
  ·rename_i h0;simp [h0])
 exact ⟨q,h2,h1⟩
end Go.Own
