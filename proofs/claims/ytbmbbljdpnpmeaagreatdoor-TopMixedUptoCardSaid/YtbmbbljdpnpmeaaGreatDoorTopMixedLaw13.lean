/- No conditions. -/
import Derived.Test.YtbmbbljdpnpmeaaGreatDoorTopMixedLaw8
import Derived.Test.YtbmbbljdpnpmeaaGreatDoorTopMixedLaw10
set_option linter.all false
namespace Go.Own
def letB (x:Int):Bool:=decide (97<=x/\x<=122∨65<=x/\x<=90∨x=95)
def alnB (x:Int):Bool:=letB x || decide (48<=x/\x<=57)
def Aq9:List UInt8:=[110,117,108,108]
theorem Biv:((⟨#[110,117,108,108]⟩:ByteArray)).toList=Aq9:=Ax9 (l:=Aq9)
theorem Ay2:((⟨#[]⟩:ByteArray)).toList=[]:=Ax9 (l:=[])
def Ada:List UInt8->Bool
 | []=>false
 | b::r=>decide (r.length<24)&&letB (u8i b)&&!decide (b::r=Aq9)&&r.all fun b=>alnB (u8i b)
def Aix (s:ByteArray):Bool:=Ada s.toList
theorem Bgk {φ:Bool->Prop} {P:Prop} {x:Int} (h:if alnB x=true then P else φ false) (hl:¬ letB x=true):if x<48 then φ false else if 57<x then φ false else P:=by
 have e:alnB x=decide (48<=x/\x<=57):=by unfold alnB;rw [Bool.eq_false_iff.2 hl,Bool.false_or]
 rw [e] at h
 repeat' split
 ·rw [if_neg (by rw [decide_eq_true_iff];omega)] at h;exact h
 ·rw [if_neg (by rw [decide_eq_true_iff];omega)] at h;exact h
 ·rw [if_pos (by rw [decide_eq_true_iff];omega)] at h;exact h
namespace q56_
theorem two {s:ByteArray} {i:Int} {φ:Bool->Prop} {x:Int} (h:if letB x=true then L3 s i φ else if i=0 then φ false else if x<48 then φ false else if 57<x then φ false else L3 s i φ):L2 s i x (letB x) φ:=by
 apply L2_step;exact h
theorem spec {s : ByteArray} : C s (Aix s) := by
  obtain ⟨r, h1, h2⟩ := enter s (fun r => r = Aix s) (by
    unfold Aix;rw [Aid, Biv, Ay2];cases hs : s.toList with
    | nil => simp [Ada]
    | cons b t =>
      rw [if_neg (by simp)]
      split
      · rename_i hn
        have hn : 24 <= t.length := by simp at hn; omega
        simp [Ada]; omega
      · rename_i hn
        have hn : t.length < 24 := by simp at hn; omega
        have hlen : s.toList.length = t.length + 1 := by rw [hs]; rfl
        split
        · rename_i h0
          simp [Ada, Aq9, h0]
        · rename_i h0
          have body : ∀ (k : Nat) c, s.toList[k]? = some c -> (if letB (u8i c) = true then L1 s ((k + 1 : Nat) : Int) (fun r => r = Ada (b :: t)) else if (k : Int) = 0 then false = Ada (b :: t) else if (u8i c) < 48 then false = Ada (b :: t) else if 57 < (u8i c) then false = Ada (b :: t) else L1 s ((k + 1 : Nat) : Int) (fun r => r = Ada (b :: t))) -> L1 s k (fun r => r = Ada (b :: t)) := by
            intro k c hc h;have hk := (List.getElem?_eq_some_iff.1 hc).1;apply L1_step;rw [Aid, if_pos (by omega)];refine ⟨c, Aub hc, ?_⟩;have next : L1 s ((k + 1 : Nat) : Int) (fun r => r = Ada (b :: t)) -> L3 s k fun r => r = Ada (b :: t) := fun h => by
              apply L3_step;rw [Aa3 (by omega)];exact h
            have key : L2 s k (u8i c) (letB (u8i c)) fun r => r = Ada (b :: t) := by
              apply two
              split
              · rename_i hh; rw [if_pos hh] at h; exact next h
              · rename_i hh; rw [if_neg hh] at h
                split
                · rename_i h2; rw [if_pos h2] at h; exact h
                · rename_i h2; rw [if_neg h2] at h
                  split
                  · rename_i h3; rw [if_pos h3] at h; exact h
                  · rename_i h3; rw [if_neg h3] at h
                    split
                    · rename_i h4; rw [if_pos h4] at h; exact h
                    · rename_i h4; rw [if_neg h4] at h; exact next h
            have e : ∀ v, v = letB (u8i c) -> L2 s k (u8i c) v fun r => r = Ada (b :: t) := by rintro _ rfl; exact key
            repeat' split
            all_goals apply e
            all_goals unfold letB
            all_goals first
              | (symm; rw [decide_eq_true_iff]; omega)
              | (by_cases h : u8i c = 95
                 · simp [h]
                 · have : (u8i c == 95) = false := by simpa using h
                   rw [this]; symm; rw [decide_eq_false_iff_not]; omega)
          have h0s : s.toList[0]? = some b := by rw [hs]; rfl
          refine body 0 b h0s ?_
          split
          · rename_i hb
            have rest := Axv (l := t) (p := fun b => alnB (u8i b)) (L := fun i => L1 s (i + 1) fun r => r = Ada (b :: t)) (φ := fun r => r = Ada (b :: t)) ?_ ?_ ?_
            · simpa using rest
            · intro h
              apply L1_step;rw [Aid, if_neg (by omega)]; exact h
            · intro k c hc hk h
              have e1 : ((k : Nat) : Int) + 1 = ((k + 1 : Nat) : Int) := by omega
              rw [e1];refine body (k + 1) c (by rw [hs]; simpa using hc) ?_
              split
              · rename_i hl
                rw [if_pos (by unfold alnB; rw [hl]; rfl)] at h;exact h
              · rename_i hl
                rw [if_neg (by omega)];exact Bgk (φ := fun r => r = Ada (b :: t)) h hl
            · simp [Ada, hb, h0, hn]
          · rename_i hb
            simp [Ada, hb])
  rw [← h1]; exact h2
end q56_
def eqS (x a:ByteArray):Bool:=decide (a=x)
def Ail:List ByteArray->List ByteArray->Bool
 | _,[]=>true
 | pre,a::r=>Aix a&&!pre.any (eqS a)&&Ail (pre++[a]) r
def Ahv (l:List ByteArray):Bool:=Ail [] l
namespace q17_
theorem spec {l:List ByteArray} {x:ByteArray} (hn:l.length<Big):C l x (ixI (eqS x) l):=by
 obtain ⟨r,h1,h2⟩:=enter l x (fun r=>r=ixI (eqS x) l) (by
  refine An6 (l:=l) (p:=eqS x) (L:=fun i=>L1 l x i _) (φ:=fun r=>r=ixI (eqS x) l) ?_ ?_ rfl
  ·intro h;apply L1_step;rw [if_neg (by omega)];exact h
  ·intro k a ha hk h;apply L1_step;rw [if_pos (by omega)];refine ⟨a,Ad9 ha,?_⟩;rw [Aa3 (by unfold Big at hn;omega)]
   split
   ·rename_i hh;rw [if_pos (by simp [eqS,Aoh.1 hh])] at h;exact h
   ·rename_i hh;rw [if_neg (by simp only [eqS,decide_eq_true_eq];rintro rfl;exact hh rfl)] at h;exact h)
 rw [← h1];exact h2
end q17_
theorem q15_.spec {l:List ByteArray} {x:ByteArray} (hn:l.length<Big):q15_.C l x (l.any (eqS x)):=by
 obtain ⟨r,h1,h2⟩:=q15_.enter l x (fun r=>r=l.any (eqS x)) ⟨_,q17_.spec hn,by rw [Auq]⟩;rw [← h1];exact h2
theorem Bd1 {l : List ByteArray} {L : Int -> Prop} {P Q : Prop} (stop : P -> L (l.length : Int))
    (step : ∀ (k : Nat) a, l[k]? = some a -> k < l.length -> (if Aix a = true then (if (l.take k).any (eqS a) = true then Q else L ((k + 1 : Nat) : Int)) else Q) -> L k) (h : Ahv l = true -> P) (h' : Ahv l = false -> Q) : L 0 := by
  have : ∀ (r : List ByteArray) (k : Nat), l.drop k = r -> k <= l.length -> (Ail (l.take k) r = true -> P) -> (Ail (l.take k) r = false -> Q) -> L k := by
    intro r
    induction r with
    | nil => intro k hd hk h h'; have : k = l.length := by have := Aay hd; omega
             subst this; exact stop (h rfl)
    | cons a r ih =>
      intro k hd hk h h';have hlt := Aaz hd;refine step k a (Aaq hd) hlt ?_;have hn := ih (k + 1) (Aa8 hd) hlt;have e : l.take (k + 1) = l.take k ++ [a] := by rw [List.take_add_one, Aaq hd]; rfl
      rw [e] at hn;simp only [Ail] at h h'
      split
      · rename_i h1
        split
        · rename_i h2
          exact h' (by simp [h1, h2])
        · rename_i h2
          have h2 := Bool.eq_false_iff.2 h2;exact hn (fun hh => h (by simp [h1, h2, hh])) (fun hh => h' (by simp [h1, h2, hh]))
      · rename_i h1
        have h1 := Bool.eq_false_iff.2 h1;exact h' (by simp [h1])
  exact this l 0 rfl (Nat.zero_le _) h h'
def Ab3 (v:api_Value):Bool:=decide (v.Kind=0/\v.Num=0/\v.Str.toList=[]∨v.Kind=1/\v.Str.toList=[]∨v.Kind=2/\v.Num=0/\v.Str.toList.length<=200∨v.Kind=3/\1<=v.Num/\v.Str.toList=[])
theorem Bdt {v : api_Value} {φ : Bool -> Prop} (h : φ (Ab3 v)) : (if v.Kind = 0 then (if v.Num = 0 then φ ((v.Str.toList == ((⟨#[]⟩ : ByteArray)).toList)) else φ false) else (if v.Kind = 1 then φ ((v.Str.toList == ((⟨#[]⟩ : ByteArray)).toList)) else (if v.Kind = 2 then (if v.Num = 0 then φ ((decide ((Ags v.Str) <= 200))) else φ false) else (if v.Kind = 3 then (if 1 <= v.Num then φ ((v.Str.toList == ((⟨#[]⟩ : ByteArray)).toList)) else φ false) else φ false)))) := by
  have e : ∀ b, b = Ab3 v -> φ b := by rintro _ rfl; exact h
  have e0 : (v.Str.toList == ((⟨#[]⟩ : ByteArray)).toList) = decide (v.Str.toList = []) := by
    rw [Ay2];by_cases h : v.Str.toList = []
    · simp [h]
    · simp [h]
  rw [e0, Aid]
  repeat' split
  all_goals apply e
  all_goals unfold Ab3
  all_goals first
    | (rw [decide_eq_decide]; omega)
    | (symm; rw [decide_eq_false_iff_not]; omega)
    | (rw [decide_eq_decide]; constructor
       · intro h; simp_all
       · intro h; simp_all)
theorem q64_.spec {v:api_Value}:q64_.C v (Ab3 v):=by
 obtain ⟨r,h1,h2⟩:=q64_.enter v (fun r=>r=Ab3 v) (Bdt (φ:=fun r=>r=Ab3 v) rfl);rw [← h1];exact h2
def Aen (l:List api_Value):Bool:=l.all Ab3
theorem q22_.spec {v:api_Value}:q22_.C v (!Ab3 v):=by
 obtain ⟨r,h1,h2⟩:=q22_.enter v (fun r=>r=!Ab3 v) ⟨_,q64_.spec,rfl⟩;rw [← h1];exact h2
namespace q1_
theorem spec {l:List api_Value} (hn:l.length<Big):C l (ixI (fun v=>!Ab3 v) l):=by
 obtain ⟨r,h1,h2⟩:=enter l (fun r=>r=ixI (fun v=>!Ab3 v) l) (by
  refine An6 (l:=l) (p:=fun v=>!Ab3 v) (L:=fun i=>L1 l i _) (φ:=fun r=>r=ixI (fun v=>!Ab3 v) l) ?_ ?_ rfl
  ·intro h;apply L1_step;rw [if_neg (by omega)];exact h
  ·intro k a ha hk h;apply L1_step;rw [if_pos (by omega)];refine ⟨a,Ad9 ha,_,q22_.spec,?_⟩;rw [Aa3 (by unfold Big at hn;omega)]
   exact h)
 rw [← h1];exact h2
end q1_
theorem q0_.spec {l:List api_Value} (hn:l.length<Big):q0_.C l (!Aen l):=by
 obtain ⟨r,h1,h2⟩:=q0_.enter l (fun r=>r=!Aen l) ⟨_,q1_.spec hn,by
  rw [Auq];unfold Aen;rw [List.any_eq_not_all_not];simp⟩
 rw [← h1];exact h2
theorem q25_.spec {l:List api_Value} (hn:l.length<Big):q25_.C l (Aen l):=by
 obtain ⟨r,h1,h2⟩:=q25_.enter l (fun r=>r=Aen l) ⟨_,q0_.spec hn,by
  show (!(!Aen l))=_
  rw [Bool.not_not]⟩
 rw [← h1];exact h2
def Af2 (n:Nat):Int->List api_Row->Int
 | _,[]=>0
 | last,r::rs=>if r.ID<=last then 1 else if r.Values.length=n then (if Aen r.Values=true then Af2 n r.ID rs else 1) else 6
def Ae7 (t:api_Table):Int:=if Aix t.Name=true then (if 16<t.Attrs.length then 3 else if 1000<t.Rows.length then 3 else if Ahv t.Attrs=true then Af2 t.Attrs.length 0 t.Rows else 1) else 1
theorem Bfq {n : Nat} {l : List api_Row} {L : Int -> Int -> Prop} {φ : Int -> Prop} (stop : ∀ last, φ 0 -> L last (l.length : Int))
    (step : ∀ (k : Nat) r last, l[k]? = some r -> k < l.length -> (if r.ID <= last then φ 1 else if r.Values.length = n then (if Aen r.Values = true then L r.ID ((k + 1 : Nat) : Int) else φ 1) else φ 6) -> L last k) (h : φ (Af2 n 0 l)) : L 0 0 := by
  have : ∀ (r : List api_Row) (k : Nat) (last : Int), l.drop k = r -> k <= l.length -> φ (Af2 n last r) -> L last k := by
    intro r
    induction r with
    | nil => intro k last hd hk h; have : k = l.length := by have := Aay hd; omega
             subst this; exact stop _ h
    | cons a r ih =>
      intro k last hd hk h;have hlt := Aaz hd;refine step k a last (Aaq hd) hlt ?_;simp only [Af2] at h
      split
      · rename_i h1; rw [if_pos h1] at h; exact h
      · rename_i h1; rw [if_neg h1] at h
        split
        · rename_i h2; rw [if_pos h2] at h
          split
          · rename_i h3; rw [if_pos h3] at h; exact ih (k + 1) _ (Aa8 hd) hlt h
          · rename_i h3; rw [if_neg h3] at h; exact h
        · rename_i h2; rw [if_neg h2] at h; exact h
  exact this l 0 0 rfl (Nat.zero_le _) h
namespace q65_
theorem rows {t:api_Table} {φ:Int->Prop} (hr:t.Rows.length<=1000) (ha:t.Attrs.length<=16) (h:φ (Af2 t.Attrs.length 0 t.Rows)):L2 t 0 0 φ:=by
 refine Bfq (n:=t.Attrs.length) (l:=t.Rows) (L:=fun last i=>L2 t last i φ) (φ:=φ) ?_ ?_ h
 ·intro last h;apply L2_step;rw [if_neg (by omega)];exact h
 ·intro k r last hr hk h;apply L2_step;rw [if_pos (by omega)];refine ⟨r,Ad9 hr,?_⟩
  split
  ·rename_i h1;rw [if_pos h1] at h;exact h
  ·rename_i h1;rw [if_neg h1] at h
   split
   ·rename_i h2;have h2:r.Values.length=t.Attrs.length:=by omega
    rw [if_pos h2] at h;refine ⟨_,q25_.spec (by unfold Big;omega),?_⟩;rw [Aa3 (by omega)];exact h
   ·rename_i h2;rw [if_neg (by omega)] at h;exact h
theorem spec {t:api_Table}:C t (Ae7 t):=by
 obtain ⟨r,h1,h2⟩:=enter t (fun r=>r=Ae7 t) (by
  refine ⟨_,q56_.spec,?_⟩;unfold Ae7
  split
  ·by_cases h1:16<t.Attrs.length
   ·rw [if_pos (by omega),if_pos h1]
   ·rw [if_neg (by omega),if_neg h1];by_cases h2:1000<t.Rows.length
    ·rw [if_pos (by omega),if_pos h2]
    ·rw [if_neg (by omega),if_neg h2];refine Bd1 (l:=t.Attrs) (L:=fun i=>L1 t i _) (P:=Af2 t.Attrs.length 0 t.Rows=if Ahv t.Attrs=true then Af2 t.Attrs.length 0 t.Rows else 1) (Q:=(1:Int)=if Ahv t.Attrs=true then Af2 t.Attrs.length 0 t.Rows else 1) ?_ ?_ ?_ ?_
     ·intro h;apply L1_step;rw [if_neg (by omega)];exact rows (φ:=fun r=>r=if Ahv t.Attrs=true then Af2 t.Attrs.length 0 t.Rows else 1) (by omega) (by omega) h
     ·intro k a ha hk h;apply L1_step;rw [if_pos (by omega)];refine ⟨a,Ad9 ha,_,q56_.spec,?_⟩
      split
      ·rename_i h1;rw [if_pos h1] at h;refine ⟨by omega,by omega,_,q15_.spec (by rw [List.length_take];unfold Big;omega),?_⟩;rw [Int.toNat_natCast,Nat.sub_zero,Aa3 (by omega)];exact h
      ·rename_i h1;rw [if_neg h1] at h;exact h
     ·intro h;rw [if_pos h]
     ·intro h;rw [if_neg (by rw [h];decide)]
  ·rfl)
 rw [← h1];exact h2
end q65_
namespace q33_
theorem loop {φ:List Int->Prop}:∀ (n:Nat) (acc:List Int),n<2^32->acc.length+(Aah n).length<=1000->φ (acc++(Aah n).map fun (i:Nat)=>(i:Int))->L1 n acc φ:=by
 intro n
 induction n using Nat.strongRecOn with
 | _ n ih=>
  intro acc hn hl h;apply L1_step;by_cases h0:n=0
  ·subst h0;rw [Baa] at h;rw [if_pos (by omega)];simpa using h
  ·rw [if_neg (by omega)];rw [Ba9 h0 hn] at hl h;simp only [List.length_cons] at hl;refine ⟨by omega,by omega,?_⟩;have e1:IntKind.wrap .u32 ((n:Int)-1)=((n-1:Nat):Int):=by
    have:(n:Int)-1=((n-1:Nat):Int):=by omega
    rw [this];exact Adh (k:=.u32) (by simp only [top];omega)
   rw [e1,Adq (k:=.u32) (by simpa [top] using hn) (by simp only [top];omega)];refine ih _ (Bgs h0) _ (Nat.lt_of_le_of_lt Nat.and_le_left hn) (by rw [List.length_append,List.length_singleton];omega) ?_;have e2:tz32 (n:Int)=((Acd n 32 0:Nat):Int):=by unfold tz32;rw [Int.toNat_natCast]
   rw [e2];simpa using h
theorem spec {n:Nat} (hn:n<2^32):C n ((Aah n).map fun (i:Nat)=>(i:Int)):=by
 obtain ⟨r,h1,h2⟩:=enter n (fun r=>r=(Aah n).map fun (i:Nat)=>(i:Int)) (loop n [] hn (by have:=Aew (n:=n);simp;omega) (by simp));rw [← h1];exact h2
end q33_
namespace q34_
theorem loop {k:Nat} {φ:Int->Prop} (h:φ (Al8 k)):∀ (m i:Nat),i+m=min k 32->L1 k ((2^i-1:Nat):Int) i φ
 | 0,i,hi=>by
  apply L1_step;have e:((2^i-1:Nat):Int)=(Al8 k:Int):=by unfold Al8;rw [← hi,Nat.add_zero]
  rw [e]
  split
  ·rw [if_neg (by omega)];exact h
  ·exact h
 | m+1,i,hi=>by
  apply L1_step;rw [if_pos (by omega),if_pos (by omega)];refine ⟨by omega,?_⟩;have hp:2^(i+1)<=2^32:=Nat.pow_le_pow_right (by decide) (by omega);have h2:0<2^i:=Nat.pos_of_ne_zero (by simp);rw [Nat.pow_succ] at hp;rw [As1 (k:=.u32) (by simp only [top];omega),Aee (k:=.u32) (by simp only [top];omega) (by simp only [top];omega),Aa3 (by omega)];have e:(2^i-1) ||| 2^i=2^(i+1)-1:=by
   apply Nat.eq_of_testBit_eq;intro j;rw [Nat.testBit_or,Nat.testBit_two_pow_sub_one,Nat.testBit_two_pow,Nat.testBit_two_pow_sub_one];by_cases h1:j<i
   ·have:j<i+1:=by omega
    simp [h1,this]
   ·by_cases h3:i=j
    ·subst h3;simp
    ·have:¬ j<i+1:=by omega
     simp [h1,h3,this]
  rw [e];exact loop h m (i+1) (by omega)
theorem spec {k:Nat}:C k (Al8 k):=by
 obtain ⟨r,h1,h2⟩:=enter k (fun r=>r=(Al8 k:Int)) (loop (φ:=fun r=>r=(Al8 k:Int)) rfl (min k 32) 0 (by omega));rw [← h1];exact h2
end q34_
end Go.Own

namespace Go.Own
def be:Nat->Nat->List Int
 | 0,_=>[]
 | j+1,u=>((u / 2^(8*j) % 256:Nat):Int)::be j u
theorem Asj:∀ {j u},(be j u).length=j
 | 0,_=>rfl
 | j+1,u=>by simp [be,Asj]
theorem Ay0:∀ {j u},∀ x∈be j u,0<=x/\x<256
 | 0,_,_,h=>by simp [be] at h
 | j+1,u,x,h=>by
  simp only [be,List.mem_cons] at h;rcases h with rfl | h
  ·omega
  ·exact Ay0 x h
theorem Be7:∀ {j u v},be j u=be j v->u % 2^(8*j)=v % 2^(8*j)
 | 0,u,v,_=>by simp [Nat.mod_one]
 | j+1,u,v,h=>by
  simp only [be,List.cons.injEq] at h;have ih:=Be7 h.2;have e:2^(8*(j+1))=2^(8*j)*256:=by rw [Nat.mul_add,Nat.pow_add]
  rw [e,Nat.mod_mul,Nat.mod_mul,ih];have:u / 2^(8*j) % 256=v / 2^(8*j) % 256:=by omega
  rw [this]
def Ahl (n:Int):Nat:=(n % 18446744073709551616).toNat ^^^ 9223372036854775808
theorem Aou {n:Int}:Ahl n<2^64:=Nat.xor_lt_two_pow (by omega) (by decide)
theorem Bci {m n:Int} (hm : -9223372036854775808<=m/\m<9223372036854775808) (hn : -9223372036854775808<=n/\n<9223372036854775808) (h:Ahl m=Ahl n):m=n:=by
 unfold Ahl at h;have h2:(m % 18446744073709551616).toNat=(n % 18446744073709551616).toNat:=by
  have:=congrArg (· ^^^ 9223372036854775808) h;simpa [Nat.xor_assoc] using this
 omega
namespace q57_
theorem loop {φ:List Int->Prop} {u:Nat} (hu:u<2^64):∀ (j:Nat) (acc:List Int),j<=8->acc.length+j<=1000->φ (acc++be j u)->L1 acc u (8*(j:Int)-8) φ
 | 0,acc,hj,hl,h=>by
  apply L1_step;rw [if_neg (by omega)];simpa [be] using h
 | j+1,acc,hj,hl,h=>by
  apply L1_step;rw [if_pos (by omega)];refine ⟨by omega,by omega,?_⟩;have e1:8*((j+1:Nat):Int)-8=((8*j:Nat):Int):=by omega
  rw [e1,Adg (k:=.u64) (by simpa [top] using hu),IntKind.wrap_u8,Agf (by omega) (by omega)];have e2:((8*j:Nat):Int)-8=8*(j:Int)-8:=by omega
  rw [e2];refine loop hu j _ (by omega) (by simp;omega) ?_;have e3:((u / 2^(8*j):Nat):Int) % 256=((u / 2^(8*j) % 256:Nat):Int):=by omega
  rw [e3];simpa [be] using h
theorem spec {n:Int} {acc:List Int} (hl:acc.length<=900):C n acc (acc++be 8 (Ahl n)):=by
 obtain ⟨r,h1,h2⟩:=enter n acc (fun r=>r=acc++be 8 (Ahl n)) (by
  have e:bXor .u64 (IntKind.wrap .u64 n) 9223372036854775808=(Ahl n:Int):=by
   have e1:IntKind.wrap .u64 n=(((n % 18446744073709551616).toNat:Nat):Int):=by
    simp only [IntKind.wrap,IntKind.bits,IntKind.signed];simp;omega
   rw [e1];exact Axz (k:=.u64) (b:=9223372036854775808) (by simp only [top];omega) (by simp only [top];omega)
  rw [e]
  exact loop Aou 8 acc (by omega) (by omega) rfl)
 rw [← h1];exact h2
end q57_
def esc:List UInt8->List Int
 | []=>[]
 | b::r=>if u8i b=0 then 0::255::esc r else u8i b::esc r
theorem Bgz {l:List UInt8} {b:UInt8}:esc (l++[b])=esc l++esc [b]:=by
 induction l with
 | nil=>rfl
 | cons a l ih=>simp only [List.cons_append,esc,ih];split<;>rfl
theorem Al5:∀ {l:List UInt8},∀ x∈esc l,0<=x/\x<256
 | [],x,h=>by simp [esc] at h
 | b::r,x,h=>by
  simp only [esc] at h
  split at h
  ·simp only [List.mem_cons] at h;rcases h with rfl | rfl | h
   ·omega
   ·omega
   ·exact Al5 x h
  ·simp only [List.mem_cons] at h;rcases h with rfl | h
   ·exact Bn6
   ·exact Al5 x h
theorem Aq2:∀ {l:List UInt8},(esc l).length<=2*l.length
 | []=>by simp [esc]
 | b::r=>by
  have:=Aq2 (l:=r);simp only [esc]
  split<;>simp only [List.length_cons]<;>omega
theorem Aui:∀ {a b:List UInt8} {r s:List Int},esc a++(0::1::r)=esc b++(0::1::s)->a=b/\r=s
 | [],[],r,s,h=>by simpa [esc] using h
 | [],y::b,r,s,h=>by
  simp only [esc] at h
  split at h
  ·simp at h
  ·rename_i hy;simp only [List.nil_append,List.cons_append,List.cons.injEq] at h;exact absurd h.1.symm hy
 | x::a,[],r,s,h=>by
  simp only [esc] at h
  split at h
  ·simp at h
  ·rename_i hx;simp only [List.nil_append,List.cons_append,List.cons.injEq] at h;exact absurd h.1 hx
 | x::a,y::b,r,s,h=>by
  simp only [esc] at h
  split at h
  ·rename_i hx
   split at h
   ·rename_i hy;simp only [List.cons_append,List.cons.injEq,true_and] at h;obtain ⟨h1,h2⟩:=Aui h;exact ⟨by rw [h1,Bbs.1 (hx.trans hy.symm)],h2⟩
   ·rename_i hy;simp only [List.cons_append,List.cons.injEq] at h;exact absurd h.1.symm hy
  ·rename_i hx
   split at h
   ·rename_i hy;simp only [List.cons_append,List.cons.injEq] at h;exact absurd h.1 hx
   ·rename_i hy;simp only [List.cons_append,List.cons.injEq] at h;obtain ⟨h1,h2⟩:=Aui h.2;exact ⟨by rw [h1,Bbs.1 h.1],h2⟩
def keyJ (v:api_Value):List Int:=v.Kind::(if v.Kind=1∨v.Kind=3 then be 8 (Ahl v.Num) else if v.Kind=2 then esc v.Str.toList++[0,1] else [])
def Ajk (v:api_Value):Prop:=-9223372036854775808<=v.Num/\v.Num<9223372036854775808
theorem Afx {v:api_Value} (h:Ab3 v=true):v.Kind=0/\v.Num=0/\v.Str.toList=[]∨v.Kind=1/\v.Str.toList=[]∨v.Kind=2/\v.Num=0/\v.Str.toList.length<=200∨v.Kind=3/\1<=v.Num/\v.Str.toList=[]:=by
 simpa [Ab3] using h
theorem At9 {v:api_Value} (h:Ab3 v=true):∀ x∈keyJ v,0<=x/\x<256:=by
 intro x hx;have hk:0<=v.Kind/\v.Kind<=3:=by rcases Afx h with h | h | h | h<;>omega
 simp only [keyJ,List.mem_cons] at hx;rcases hx with rfl | hx
 ·omega
 ·split at hx
  ·exact Ay0 x hx
  ·split at hx
   ·rcases List.mem_append.1 hx with hx | hx
    ·exact Al5 x hx
    ·simp at hx;rcases hx with rfl | rfl<;>omega
   ·simp at hx
theorem Ana {v:api_Value} (h:Ab3 v=true):(keyJ v).length<=403:=by
 simp only [keyJ,List.length_cons]
 split
 ·rw [Asj];omega
 ·split
  ·have:=Aq2 (l:=v.Str.toList);have:v.Str.toList.length<=200:=by
    rcases Afx h with h | h | h | h
    ·rw [h.2.2];simp
    ·rw [h.2];simp
    ·exact h.2.2
    ·rw [h.2.2];simp
   simp;omega
  ·simp
theorem Bhd {v w:api_Value} {r s:List Int} (hv:Ab3 v=true) (hw:Ab3 w=true) (nv:Ajk v) (nw:Ajk w) (h:keyJ v++r=keyJ w++s):v=w/\r=s:=by
 obtain ⟨k,n,t⟩:=v;obtain ⟨k',n',t'⟩:=w;simp only [keyJ,List.cons_append,List.cons.injEq] at h;obtain ⟨rfl,h⟩:=h;have hv:=Afx hv;have hw:=Afx hw;simp only at hv hw;simp only [api_Value.mk.injEq,true_and];by_cases h1:k=1∨k=3
 ·rw [if_pos h1,if_pos h1] at h;have h3:=List.append_inj h (by rw [Asj,Asj]);have h2:=Be7 h3.1;rw [Nat.mod_eq_of_lt Aou,Nat.mod_eq_of_lt Aou] at h2;have e:=Bci nv nw h2;simp only at e;refine ⟨⟨e,?_⟩,h3.2⟩;rw [← Aoh];have a1:t.toList=[]:=by rcases hv with h | h | h | h<;>first | exact h.2.2 | exact h.2 | omega
  have a2:t'.toList=[]:=by rcases hw with h | h | h | h<;>first | exact h.2.2 | exact h.2 | omega
  rw [a1,a2]
 ·rw [if_neg h1,if_neg h1] at h;by_cases h2:k=2
  ·rw [if_pos h2,if_pos h2,List.append_assoc,List.append_assoc] at h;obtain ⟨e1,e2⟩:=Aui h;rw [Aoh] at e1;exact ⟨⟨by omega,e1⟩,e2⟩
  ·rw [if_neg h2,if_neg h2] at h;have a1:t.toList=[]:=by rcases hv with h | h | h | h<;>first | exact h.2.2 | exact h.2 | omega
   have a2:t'.toList=[]:=by rcases hw with h | h | h | h<;>first | exact h.2.2 | exact h.2 | omega
   exact ⟨⟨by omega,by rw [← Aoh,a1,a2]⟩,by simpa using h⟩
def keyW (v:api_Value):ByteArray:=Al2 (keyJ v)
namespace q71_
theorem loop {v:api_Value} {φ:ByteArray×Int->Prop} (hk:v.Kind=2) (hs:v.Str.toList.length<=200) (h:φ (keyW v,0)):∀ (r:List UInt8) (k:Nat),v.Str.toList.drop k=r->k<=v.Str.toList.length->L1 v (2::esc (v.Str.toList.take k)) k φ:=by
 intro r
 induction r with
 | nil=>
  intro k hd hk2;apply L1_step;have:=Aay hd;rw [Aid,if_neg (by omega),List.take_of_length_le this];have hl:=Aq2 (l:=v.Str.toList);have e:keyJ v=(2::esc v.Str.toList)++[0,1]:=by simp [keyJ,hk]
  refine ⟨by simp only [List.length_cons];omega,fun x hx=>?_,?_⟩
  ·rcases List.mem_append.1 hx with hx | hx
   ·rcases List.mem_cons.1 hx with rfl | hx
    ·omega
    ·exact Al5 x hx
   ·simp at hx;rcases hx with rfl | rfl<;>omega
  ·rw [← e];exact h
 | cons b r ih=>
  intro k hd hk2;have hlt:=Aaz hd;apply L1_step;rw [Aid,if_pos (by omega)];have hl:=Aq2 (l:=v.Str.toList.take k);rw [List.length_take] at hl;refine ⟨b,Aub (Aaq hd),by simp only [List.length_cons];omega,b,Aub (Aaq hd),?_⟩;have ih:=ih (k+1) (Aa8 hd) hlt;have e:v.Str.toList.take (k+1)=v.Str.toList.take k++[b]:=by rw [List.take_add_one,Aaq hd];rfl
  rw [e,Bgz] at ih;have next:∀ l,l=2::(esc (v.Str.toList.take k)++esc [b])->L4 v l k φ:=by
   rintro _ rfl;apply L4_step;rw [Aa3 (by omega)];exact ih
  split
  ·rename_i h0;refine ⟨by simp only [List.length_append,List.length_cons,List.length_nil];omega,next _ ?_⟩;simp [esc,h0]
  ·rename_i h0;exact next _ (by simp [esc,h0])
theorem spec {v:api_Value} (hv:Ab3 v=true):C v (keyW v,0):=by
 obtain ⟨r,h1,h2⟩:=enter v (fun r=>r=(keyW v,0)) (by
  refine ⟨_,q64_.spec,?_⟩;rw [if_pos hv];have hc:=Afx hv;have hk:0<=v.Kind/\v.Kind<=3:=by rcases hc with h | h | h | h<;>omega
  have ek:IntKind.wrap .u8 v.Kind=v.Kind:=by rw [IntKind.wrap_u8];omega
  have two:∀ b,(v.Kind=1∨v.Kind=3)->L2 v b fun r=>r=(keyW v,0):=by
   intro b hb;apply L2_step;rw [ek];have e:keyJ v=[v.Kind]++be 8 (Ahl v.Num):=by simp [keyJ,hb]
   refine ⟨_,q57_.spec (by simp),?_,?_⟩
   ·rw [← e];exact At9 hv
   ·rw [← e];rfl
  have three:¬ (v.Kind=1∨v.Kind=3)->L3 v fun r=>r=(keyW v,0):=by
   intro hb;apply L3_step;rw [ek]
   split
   ·rename_i h2;have hs:v.Str.toList.length<=200:=by
     rcases hc with h | h | h | h
     ·omega
     ·omega
     ·exact h.2.2
     ·omega
    have:=loop (φ:=fun r=>r=(keyW v,0)) h2 hs rfl v.Str.toList 0 rfl (by omega);rw [h2];simpa [esc] using this
   ·rename_i h2;refine ⟨fun x hx=>by simp at hx;omega,?_⟩;simp [keyW,keyJ,hb,h2]
  split
  ·rename_i h1;exact two _ (.inl h1)
  ·rename_i h1
   split
   ·rename_i h3;exact two _ (.inr h3)
   ·rename_i h3;exact three (by omega))
 rw [← h1];exact h2
end q71_
def b8 (x:Int):UInt8:=UInt8.ofNat x.toNat
theorem Bll {x y:Int} (hx:0<=x/\x<256) (hy:0<=y/\y<256) (h:b8 x=b8 y):x=y:=by
 unfold b8 at h;have:=congrArg UInt8.toNat h;simp at this;omega
theorem Atk:∀ {l m:List Int},(∀ x∈l,0<=x/\x<256)->(∀ x∈m,0<=x/\x<256)->l.map b8=m.map b8->l=m
 | [],[],_,_,_=>rfl
 | [],_::_,_,_,h=>by simp at h
 | _::_,[],_,_,h=>by simp at h
 | x::l,y::m,h1,h2,h=>by
  simp only [List.map_cons,List.cons.injEq] at h;rw [Bll (h1 x (by simp)) (h2 y (by simp)) h.1,Atk (fun z hz=>h1 z (by simp [hz])) (fun z hz=>h2 z (by simp [hz])) h.2]
theorem Aw5 {v:api_Value}:(keyW v).data.toList=(keyJ v).map b8:=by
 unfold keyW Al2 b8;simp
theorem Aw6 {v:api_Value}:(keyW v).size=(keyJ v).length:=by
 have:(keyW v).size=(keyW v).data.toList.length:=rfl;rw [this,Aw5,List.length_map]
def Acz (l:List api_Value):List Int:=l.flatMap keyJ
theorem Aqw {l:List api_Value} (h:∀ v∈l,Ab3 v=true):∀ x∈Acz l,0<=x/\x<256:=by
 intro x hx;obtain ⟨v,hv,hx⟩:=List.mem_flatMap.1 hx;exact At9 (h v hv) x hx
theorem Aw7:∀ {l m:List api_Value},l.length=m.length->(∀ v∈l,Ab3 v=true/\Ajk v)->(∀ v∈m,Ab3 v=true/\Ajk v)->Acz l=Acz m->l=m
 | [],[],_,_,_,_=>rfl
 | [],_::_,h,_,_,_=>by simp at h
 | _::_,[],h,_,_,_=>by simp at h
 | v::l,w::m,hl,h1,h2,h=>by
  simp only [Acz,List.flatMap_cons] at h;have a:=h1 v (by simp);have b:=h2 w (by simp);obtain ⟨e1,e2⟩:=Bhd a.1 b.1 a.2 b.2 h;rw [e1,Aw7 (by simpa using hl) (fun z hz=>h1 z (by simp [hz])) (fun z hz=>h2 z (by simp [hz])) e2]
def Ab5 (l:List api_Value):ByteArray:=bstr ((Acz l).map b8)
theorem Aoz {l m:List api_Value} (hl:l.length=m.length) (h1:∀ v∈l,Ab3 v=true/\Ajk v) (h2:∀ v∈m,Ab3 v=true/\Ajk v):Ab5 l=Ab5 m↔l=m:=by
 constructor
 ·intro h;have h3:(Acz l).map b8=(Acz m).map b8:=by
   have:=congrArg ByteArray.toList h;unfold Ab5 at this
   rwa [Auc,Auc] at this
  exact Aw7 hl h1 h2 (Atk (Aqw fun v hv=>(h1 v hv).1) (Aqw fun v hv=>(h2 v hv).1) h3)
 ·rintro rfl;rfl
def pick (l:List api_Value) (n:Nat):List api_Value:=(Aah n).filterMap fun i=>l[i]?
def Axt (a b:List api_Value) (n:Nat):Bool:=decide (pick a n=pick b n)
theorem Bih {a b:List api_Value} (hl:a.length=b.length):∀ {l:List Nat},(l.filterMap fun i=>a[i]?)=(l.filterMap fun i=>b[i]?)↔∀ i∈l,a[i]? = b[i]?
 | []=>by simp
 | k::l=>by
  have ih:=Bih (a:=a) (b:=b) hl (l:=l);by_cases h:k<a.length
  ·have e1:=List.getElem?_eq_getElem h;have e2:=List.getElem?_eq_getElem (l:=b) (i:=k) (by omega);simp only [List.filterMap_cons,e1,e2,List.cons.injEq,ih,List.forall_mem_cons,zJ]
  ·have e1:a[k]? = none:=List.getElem?_eq_none (by omega);have e2:b[k]? = none:=List.getElem?_eq_none (by omega);simp only [List.filterMap_cons,e1,e2,ih,List.forall_mem_cons,true_and]
theorem Be3 {a b:List api_Value} {n:Nat} (hn:n<2^32) (hl:a.length=b.length):Axt a b n=true↔∀ i,n.testBit i=true->a[i]? = b[i]?:=by
 unfold Axt pick;rw [decide_eq_true_iff,Bih hl];constructor
 ·exact fun h i hi=>h i ((Ab1 hn).2 hi)
 ·exact fun h i hi=>h i ((Ab1 hn).1 hi)
theorem Ah2 {l:List api_Value} {n:Nat}:∀ v∈pick l n,v∈l:=by
 intro v hv;obtain ⟨i,_,hi⟩:=List.mem_filterMap.1 hv;exact List.mem_of_getElem? hi
theorem Bhy {l:List api_Value} {n:Nat}:(pick l n).length<=32:=Nat.le_trans (List.length_filterMap_le _ _) Aew
structure TV (t:api_Table):Prop where
 name:Aix t.Name=true
 na:t.Attrs.length<=16
 nr:t.Rows.length<=1000
 names:Ahv t.Attrs=true
 rows:Af2 t.Attrs.length 0 t.Rows=0
theorem Agd {t:api_Table}:Ae7 t=0↔TV t:=by
 unfold Ae7;constructor
 ·intro h
  split at h
  ·split at h
   ·cases h
   ·split at h
    ·cases h
    ·split at h
     ·rename_i h1 h2 h3 h4;exact ⟨h1,by omega,by omega,h4,h⟩
     ·cases h
  ·cases h
 ·intro h;rw [if_pos h.name,if_neg (by have:=h.na;omega),if_neg (by have:=h.nr;omega),if_pos h.names];exact h.rows
theorem Aph {n:Nat}:∀ {l:List api_Row} {last:Int},Af2 n last l=0->∀ r∈l,r.Values.length=n/\(∀ v∈r.Values,Ab3 v=true)/\last<r.ID
 | [],_,_,r,hr=>by cases hr
 | a::l,last,h,r,hr=>by
  simp only [Af2] at h
  split at h
  ·cases h
  ·split at h
   ·split at h
    ·rename_i h1 h2 h3;unfold Aen at h3;rw [List.all_eq_true] at h3;rcases List.mem_cons.1 hr with rfl | hr
     ·exact ⟨h2,h3,by omega⟩
     ·obtain ⟨e1,e2,e3⟩:=Aph h r hr;exact ⟨e1,e2,by omega⟩
    ·cases h
   ·cases h
theorem TV.len {t:api_Table} (h:TV t) {r:api_Row} (hr:r∈t.Rows):r.Values.length=t.Attrs.length:=(Aph h.rows r hr).1
theorem TV.val {t:api_Table} (h:TV t) {r:api_Row} (hr:r∈t.Rows):∀ v∈r.Values,Ab3 v=true:=(Aph h.rows r hr).2.1
def TNum (t:api_Table):Prop:=∀ r∈t.Rows,∀ v∈r.Values,Ajk v
def Aed (t:api_Table) (n:Nat):List (List api_Value):=t.Rows.map fun r=>pick r.Values n
theorem Afv {t:api_Table} {n:Nat}:(Aed t n).length=t.Rows.length:=by simp [Aed]
theorem Bhx {t:api_Table} (ht:TV t) {n i j:Nat} (hn:n<2^32) (hi:i<t.Rows.length) (hj:j<t.Rows.length):(Aed t n)[i]? = (Aed t n)[j]?↔∀ k,n.testBit k=true->(t.Rows[i]'hi).Values[k]? = (t.Rows[j]'hj).Values[k]?:=by
 unfold Aed;rw [List.getElem?_map,List.getElem?_map,List.getElem?_eq_getElem hi,List.getElem?_eq_getElem hj];simp only [Option.map_some,zJ];rw [← Be3 hn (by rw [ht.len (List.getElem_mem hi),ht.len (List.getElem_mem hj)])];unfold Axt;rw [decide_eq_true_iff]
def OkP (t:api_Table) (l r i k:Nat):Prop:=(Aed t l)[i]? = (Aed t l)[k]?->(Aed t r)[i]? = (Aed t r)[k]?
def SatP (t:api_Table) (l r:Nat):Prop:=∀ i k,i<t.Rows.length->k<i->OkP t l r i k
theorem SatP.all {t:api_Table} {l r:Nat} (h:SatP t l r) {i k:Nat} (hi:i<t.Rows.length) (hk:k<t.Rows.length):OkP t l r i k:=by
 rcases Nat.lt_trichotomy i k with h1 | h1 | h1
 ·exact fun e=>(h k i hk h1 e.symm).symm
 ·subst h1;exact fun _=>rfl
 ·exact h i k hi h1
def EqA (t:api_Table) (i k a:Nat):Prop:=(t.Rows[i]?.map fun r=>r.Values[a]?)=(t.Rows[k]?.map fun r=>r.Values[a]?)
instance (t:api_Table) (i k a:Nat):Decidable (EqA t i k a):=by unfold EqA;infer_instance
theorem Akh {t:api_Table} (ht:TV t) {n i j:Nat} (hn:n<2^32) (hi:i<t.Rows.length) (hj:j<t.Rows.length):(Aed t n)[i]? = (Aed t n)[j]?↔∀ k,n.testBit k=true->EqA t i j k:=by
 rw [Bhx ht hn hi hj];unfold EqA;rw [List.getElem?_eq_getElem hi,List.getElem?_eq_getElem hj];simp only [Option.map_some,zJ]
theorem Bl9 {t:api_Table} (ht:TV t) {l r:Nat} (hl:l<2^32) (hr:r<2^32):SatP t l r↔∀ i k,i<t.Rows.length->k<i->(∀ a,l.testBit a=true->EqA t i k a)->∀ a,r.testBit a=true->EqA t i k a:=by
 unfold SatP OkP;constructor
 ·intro h i k hi hk;have:=h i k hi hk;rw [Akh ht hl hi (by omega),Akh ht hr hi (by omega)] at this;exact this
 ·intro h i k hi hk;rw [Akh ht hl hi (by omega),Akh ht hr hi (by omega)];exact h i k hi hk
theorem q43_.spec {a b:Nat} (ha:a<2^32) (hb:b<2^32):q43_.C a b (decide (a &&& b=a)):=by
 obtain ⟨r,h1,h2⟩:=q43_.enter a b (fun r=>r=decide (a &&& b=a)) (by
  rw [Adq (k:=.u32) (by simpa [top] using ha) (by simpa [top] using hb)];by_cases h:a &&& b=a
  ·simp [h]
  ·have:¬ ((a &&& b:Nat):Int)=(a:Int):=by omega
   simp [h,this])
 rw [← h1];exact h2
def FdOK (l:List api_FD):Prop:=∀ d∈l,U32 d.Lhs/\U32 d.Rhs
def inU (n:Nat) (l r:Int):Bool:=decide (sN l<2^n)&&decide (sN r<2^n)
theorem Bcr {n:Nat} {l r:Int} (hl:U32 l) (hr:U32 r):(shrw .u32 (bOr .u32 l r) (n:Int)=0)↔inU n l r=true:=by
 rw [hl.eq,hr.eq,Aee hl.top hr.top,Adg (Nat.or_lt_two_pow hl.top hr.top)];unfold inU;rw [Bool.and_eq_true,decide_eq_true_iff,decide_eq_true_iff];have e1:sN (sN l:Int)=sN l:=by unfold sN;omega
 have e2:sN (sN r:Int)=sN r:=by unfold sN;omega
 rw [e1,e2,← Axg,← Ayf];omega
def fdsE (n:Int) (l:List api_FD):Int:=if n<0∨16<n then 7 else if 64<l.length then 3 else if (l.all fun d=>inU n.toNat d.Lhs d.Rhs)=true then 0 else 1
theorem Axu {α:Type} {l:List α} {p:α->Bool} {L:Int->Prop} {φ:Int->Prop} (stop:φ 0->L (l.length:Int))
  (step:∀ (k:Nat) a,l[k]? = some a->k<l.length->(if p a=true then L ((k+1:Nat):Int) else φ 1)->L k) (h:φ (if l.all p=true then 0 else 1)):L 0:=
 Axv (l:=l) (p:=p) (L:=L) (φ:=fun b=>φ (if b=true then 0 else 1)) (fun h=>stop (by simpa using h)) (fun k a ha hk h=>step k a ha hk (by simpa using h)) h
theorem q46_.spec {n:Int} {l:List api_FD} (hl:FdOK l):q46_.C n l (fdsE n l):=by
 obtain ⟨r,h1,h2⟩:=q46_.enter n l (fun r=>r=fdsE n l) (by
  by_cases a:n<0∨16<n
  ·have e:fdsE n l=7:=if_pos a;rw [e];by_cases b:n<0
   ·rw [if_pos b]
   ·rw [if_neg b,if_pos (by omega)]
  ·rw [if_neg (by omega),if_neg (by omega)];by_cases b:64<l.length
   ·have e:fdsE n l=3:=by unfold fdsE;rw [if_neg a,if_pos b]
    rw [e,if_pos (by omega)]
   ·have e:fdsE n l=if (l.all fun d=>inU n.toNat d.Lhs d.Rhs)=true then 0 else 1:=by unfold fdsE;rw [if_neg a,if_neg b]
    rw [e,if_neg (by omega)]
    ·obtain ⟨m,rfl⟩:∃ m:Nat,n=m:=⟨n.toNat,by omega⟩
     refine Axu (l:=l) (p:=fun d=>inU m d.Lhs d.Rhs) (L:=fun i=>q46_.L1 m l i _) (φ:=fun r=>r=_) ?_ ?_ rfl
     ·intro h;apply q46_.L1_step;rw [if_neg (by omega)];exact h
     ·intro k d hd hk h;apply q46_.L1_step;rw [if_pos (by omega)];refine ⟨d,Ad9 hd,by omega,?_⟩;have hd':=hl d (List.mem_of_getElem? hd);have e:=Bcr (n:=m) hd'.1 hd'.2;rw [Aa3 (by omega)]
      split
      ·rename_i hh;rw [if_pos (e.1 hh)] at h;exact h
      ·rename_i hh;rw [if_neg (fun h3=>hh (e.2 h3))] at h;exact h)
 rw [← h1];exact h2
theorem Ayj {n:Int} {l:List api_FD} (h:fdsE n l=0):0<=n/\n<=16:=by
 unfold fdsE at h
 split at h
 ·cases h
 ·omega
def Ahe (l:List api_MVD):Prop:=∀ d∈l,U32 d.Lhs/\U32 d.Rhs
def basE (n:Int) (l:List api_FD) (m:List api_MVD):Int:=if fdsE n l=0 then (if 64<m.length then 3 else if (m.all fun d=>inU n.toNat d.Lhs d.Rhs)=true then 0 else 1) else fdsE n l
theorem q66_.spec {n:Int} {l:List api_FD} {m:List api_MVD} (hl:FdOK l) (hm:Ahe m):q66_.C n l m (basE n l m):=by
 obtain ⟨r,h1,h2⟩:=q66_.enter n l m (fun r=>r=basE n l m) (by
  refine ⟨_,q46_.spec hl,?_⟩;unfold basE
  split
  ·rename_i h0;have hn:=Ayj h0
   split
   ·rw [if_pos (by omega)]
   ·rw [if_neg (by omega)];obtain ⟨q,rfl⟩:∃ q:Nat,n=q:=⟨n.toNat,by omega⟩
    refine Axu (l:=m) (p:=fun d=>inU q d.Lhs d.Rhs) (L:=fun i=>q66_.L1 q m i _) (φ:=fun r=>r=_) ?_ ?_ rfl
    ·intro h;apply q66_.L1_step;rw [if_neg (by omega)];exact h
    ·intro k d hd hk h;apply q66_.L1_step;rw [if_pos (by omega)];refine ⟨d,Ad9 hd,by omega,?_⟩;have hd':=hm d (List.mem_of_getElem? hd);have e:=Bcr (n:=q) hd'.1 hd'.2;rw [Aa3 (by omega)]
     split
     ·rename_i hh;rw [if_pos (e.1 hh)] at h;exact h
     ·rename_i hh;rw [if_neg (fun h3=>hh (e.2 h3))] at h;exact h
  ·rfl)
 rw [← h1];exact h2
def MixP (t:api_Table) (left i k:Nat):Prop:=∃ j,j<t.Rows.length/\(∀ a,left.testBit a=true->EqA t j i a)/\∀ a,a<t.Attrs.length->left.testBit a=false->EqA t j k a
def MvP (t:api_Table) (l r:Nat):Prop:=∀ i k,i<t.Rows.length->k<t.Rows.length->(∀ a,l.testBit a=true->EqA t i k a)->MixP t (l ||| r) i k
open Classical in
noncomputable def mvB (t:api_Table) (l r:Nat):Bool:=decide (MvP t l r)
theorem Auu {t:api_Table} {l r:Nat}:mvB t l r=true↔MvP t l r:=by unfold mvB;exact @decide_eq_true_iff _ (Classical.propDecidable _)
theorem orI {l r:Int} (hl:U32 l) (hr:U32 r):bOr .u32 l r=((sN l ||| sN r:Nat):Int):=by
 conv=>lhs;rw [hl.eq,hr.eq]
 exact Aee hl.top hr.top
theorem Bf0 {n:Nat} {l r:Int}:inU n l r=true↔sN l ||| sN r<2^n:=by
 unfold inU;rw [Bool.and_eq_true,decide_eq_true_eq,decide_eq_true_eq,Axg]
noncomputable def At4 (t:api_Table) (m:api_MVD):Bool×Int:=if inU t.Attrs.length m.Lhs m.Rhs=true then (mvB t (sN m.Lhs) (sN m.Rhs),0) else (false,1)
theorem Ayo {a b:List api_Value} (hl:a.length=b.length):∀ {l:List Nat},(l.filterMap fun i=>a[i]?).length=(l.filterMap fun i=>b[i]?).length
 | []=>rfl
 | k::l=>by
  have ih:=Ayo (a:=a) (b:=b) hl (l:=l);by_cases h:k<a.length
  ·have e1:=List.getElem?_eq_getElem h;have e2:=List.getElem?_eq_getElem (l:=b) (i:=k) (by omega);simp only [List.filterMap_cons,e1,e2,List.length_cons,ih]
  ·have e1:a[k]? = none:=List.getElem?_eq_none (by omega);have e2:b[k]? = none:=List.getElem?_eq_none (by omega);simp only [List.filterMap_cons,e1,e2,ih]
def ofP (t:api_Table) (n:Nat):api_Partition:=part (Aed t n)
theorem Bhs {t:api_Table} {n:Nat} (h:TV t) (hn:TNum t):part (t.Rows.map fun r=>Ab5 (pick r.Values n))=ofP t n:=by
 unfold ofP Aed;refine Bg7 (by simp) fun i j hi hj=>?_;rw [List.length_map] at hi hj;rw [List.getElem?_map,List.getElem?_map,List.getElem?_map,List.getElem?_map,List.getElem?_eq_getElem hi,List.getElem?_eq_getElem hj];simp only [Option.map_some,zJ];have m1:=List.getElem_mem hi;have m2:=List.getElem_mem hj;refine Aoz (Ayo (by rw [h.len m1,h.len m2])) (fun v hv=>?_) (fun v hv=>?_)
 ·exact ⟨h.val m1 v (Ah2 v hv),hn _ m1 v (Ah2 v hv)⟩
 ·exact ⟨h.val m2 v (Ah2 v hv),hn _ m2 v (Ah2 v hv)⟩
namespace q58_
theorem inner {t:api_Table} {n:Nat} {φ:api_Partition->Prop} {ks:List ByteArray} {k:Nat} {r:api_Row} (ht:TV t) (hn:n<2^t.Attrs.length) (hr:r∈t.Rows) (hk:k<1000) (hkk:k<ks.length)
  (h:L1 t ((Aah n).map fun (i:Nat)=>(i:Int)) (ks.set k (Ab5 (pick r.Values n))) ((k+1:Nat):Int) φ):∀ j,j<=(Aah n).length ->
  L2 t ((Aah n).map fun (i:Nat)=>(i:Int)) ks k r ((Acz (((Aah n).take j).filterMap fun i=>r.Values[i]?)).map b8) k j φ:=by
 have hn32:n<2^32:=Nat.lt_of_lt_of_le hn (Nat.pow_le_pow_right (by decide) (by have:=ht.na;omega));have hl:=Aew (n:=n);refine down ?_ ?_
 ·apply L2_step;rw [List.length_map,if_neg (by omega),List.take_length];refine ⟨ks[k],by rw [Abo];exact List.getElem?_eq_getElem hkk,?_⟩;rw [Aa3 (by omega)];have e:lset ks (k:Int) (Ab5 (pick r.Values n))=ks.set k (Ab5 (pick r.Values n)):=by simp [lset]
  unfold Ab5 pick at e h;rw [e];exact h
 ·intro j hj h;apply L2_step;rw [List.length_map,if_pos (by omega)];have hget:=List.getElem?_eq_getElem hj;generalize (Aah n)[j]=i at hget;have hi:=(Ab1 hn32).1 (List.mem_of_getElem? hget);have hilt:i<t.Attrs.length:=by
   false_or_by_contra
   rename_i hh;rw [Nat.testBit_lt_two_pow (Nat.lt_of_lt_of_le hn (Nat.pow_le_pow_right (by decide) (by omega)))] at hi;cases hi
  have hrl:=ht.len hr;have hv:=List.getElem?_eq_getElem (l:=r.Values) (i:=i) (by omega);generalize r.Values[i]'(by omega)=v at hv;have hval:=ht.val hr v (List.mem_of_getElem? hv);refine ⟨(i:Int),by rw [Abo,List.getElem?_map,hget];rfl,v,Ad9 hv,(keyW v,0),q71_.spec hval,?_⟩;have hsum:∀ l:List api_Value,(∀ v∈l,Ab3 v=true)->(Acz l).length<=403*l.length:=by
   intro l
   induction l with
   | nil=>simp [Acz]
   | cons a l ih=>
    intro hh;have:=ih fun v hv=>hh v (by simp [hv]);have h2:=Ana (hh a (by simp));simp only [Acz,List.flatMap_cons,List.length_append,List.length_cons] at this ⊢;omega
  have h1:=hsum (((Aah n).take j).filterMap fun i=>r.Values[i]?) (fun v hv=>by
   obtain ⟨i,_,hi⟩:=List.mem_filterMap.1 hv
   exact ht.val hr v (List.mem_of_getElem? hi))
  have h2:(((Aah n).take j).filterMap fun i=>r.Values[i]?).length<=32:=Nat.le_trans (List.length_filterMap_le _ _) (by rw [List.length_take];omega);have h3:=Ana hval;refine ⟨?_,?_⟩
  ·rw [List.length_map];have:(keyW v).size=(keyJ v).length:=Aw6;simp only [this];omega
  ·rw [Aa3 (by omega)];have e:(((Aah n).take (j+1)).filterMap fun i=>r.Values[i]?)=(((Aah n).take j).filterMap fun i=>r.Values[i]?)++[v]:=by
    rw [List.take_add_one,hget,List.filterMap_append];simp [hv]
   rw [e] at h;simp only [Acz,List.flatMap_append,List.map_append] at h;rw [Aw5];simpa [Acz] using h
theorem spec {t:api_Table} {n:Nat} (ht:TV t) (hnum:TNum t) (hn:n<2^t.Attrs.length):C t n (ofP t n):=by
 have hn32:n<2^32:=Nat.lt_of_lt_of_le hn (Nat.pow_le_pow_right (by decide) (by have:=ht.na;omega));have hr:=ht.nr;obtain ⟨q,h1,h2⟩:=enter t n (fun q=>q=ofP t n) (by
  refine ⟨_,q33_.spec hn32,by omega,?_⟩;have loop:∀ k,k<=t.Rows.length->L1 t ((Aah n).map fun (i:Nat)=>(i:Int)) ((t.Rows.take k).map (fun r=>Ab5 (pick r.Values n))++List.replicate (t.Rows.length-k) (⟨#[]⟩:ByteArray)) k fun q=>q=ofP t n:=by
   refine down ?_ ?_
   ·apply L1_step;rw [if_neg (by omega),List.take_length,Nat.sub_self,List.replicate_zero,List.append_nil];refine ⟨_,q19_.spec (by rw [List.length_map];omega),?_⟩;rw [← Bhs ht hnum];simp [part]
   ·intro k hk h;apply L1_step;rw [if_pos (by omega)];have hget:=List.getElem?_eq_getElem hk;generalize t.Rows[k]=r at hget;refine ⟨r,Ad9 hget,?_⟩;have:=inner (t:=t) (n:=n) (φ:=fun q=>q=ofP t n) (ks:=(t.Rows.take k).map (fun r=>Ab5 (pick r.Values n))++List.replicate (t.Rows.length-k) (⟨#[]⟩:ByteArray)) (k:=k) (r:=r) ht hn (List.mem_of_getElem? hget) (by omega) (by simp [List.length_take];omega) (by
     have e:((t.Rows.take k).map (fun r=>Ab5 (pick r.Values n))++List.replicate (t.Rows.length-k) (⟨#[]⟩:ByteArray)).set k (Ab5 (pick r.Values n))=(t.Rows.take (k+1)).map (fun r=>Ab5 (pick r.Values n))++List.replicate (t.Rows.length-(k+1)) (⟨#[]⟩:ByteArray):=by
      have hl:((t.Rows.take k).map (fun r=>Ab5 (pick r.Values n))).length=k:=by rw [List.length_map,List.length_take];omega
      obtain ⟨m,hm⟩:∃ m,t.Rows.length-k=m+1:=⟨t.Rows.length-k-1,by omega⟩
      rw [List.set_append_right _ _ (by omega),hl,Nat.sub_self,hm,List.replicate_succ,List.set_cons_zero,List.take_add_one,hget];have:t.Rows.length-(k+1)=m:=by omega
      rw [this];simp
     rw [e];exact h) 0 (Nat.zero_le _)
    simpa [Acz] using this
  have:=loop 0 (Nat.zero_le _)
  simpa using this)
 rw [← h1];exact h2
end q58_
theorem q30_.spec {t:api_Table} {n:Nat} (hn:n<2^32):q30_.C t n (decide (n<2^t.Attrs.length)):=by
 obtain ⟨q,h1,h2⟩:=q30_.enter t n (fun q=>q=decide (n<2^t.Attrs.length)) (by
  refine ⟨by omega,?_⟩;have hn64:n<2^top .u64:=Nat.lt_of_lt_of_le hn (by decide);rw [Adh hn64,Adg hn64];have:(((n / 2^t.Attrs.length:Nat):Int)=0)↔n<2^t.Attrs.length:=by
   have hp:0<2^t.Attrs.length:=Nat.pos_of_ne_zero (by simp);constructor
   ·intro h;have h2:n / 2^t.Attrs.length=0:=by omega
    rw [Nat.div_eq_zero_iff] at h2;omega
   ·intro h;rw [Nat.div_eq_of_lt h];rfl
  by_cases hh:n<2^t.Attrs.length
  ·simp [hh,this.2 hh]
  ·have h3:¬ ((n / 2^t.Attrs.length:Nat):Int)=0:=fun h=>hh (this.1 h);rw [decide_eq_false hh]
   simpa using h3)
 rw [← h1];exact h2
def pop8 (m:Nat):Nat:=((List.range 8).filter fun i=>m.testBit i).length
theorem Ahk {n k:Nat}:((List.range 8).map (·+k)).filter (fun i=>n.testBit i)=((List.range 8).filter fun i=>(n / 2^k % 256).testBit i).map (·+k):=by
 rw [List.filter_map];congr 1;refine List.filter_congr fun i hi=>?_;have hi:=List.mem_range.1 hi;simp only [Function.comp];rw [show (256:Nat)=2^8 from rfl,Nat.testBit_mod_two_pow,Nat.testBit_div_two_pow];simp [hi]
theorem Bfy (n:Nat):szN n=pop8 (n % 256)+pop8 (n / 2^8 % 256)+pop8 (n / 2^16 % 256)+pop8 (n / 2^24 % 256):=by
 have e:List.range 32=(List.range 8).map (·+0)++(List.range 8).map (·+8)++(List.range 8).map (·+16)++(List.range 8).map (·+24):=by decide
 unfold szN Aah pop8;rw [e,List.filter_append,List.filter_append,List.filter_append,Ahk,Ahk,Ahk,Ahk];simp only [List.length_append,List.length_map,Nat.pow_zero,Nat.div_one]
theorem Bli (a:Nat):a &&& 255=a % 256:=Nat.and_two_pow_sub_one_eq_mod a 8
theorem Amg {m:Nat}:pop8 m<=8:=by
 unfold pop8;exact Nat.le_trans (List.length_filter_le _ _) (by simp)
theorem Aqg {m:Nat}:u8i (UInt8.ofNat (pop8 m))=(pop8 m:Int):=by
 unfold u8i;rw [UInt8.toNat_ofNat'];have:=Amg (m:=m);omega
theorem q20_.spec {n:Nat} (hn:n<2^32):q20_.C n (szN n:Int):=by
 obtain ⟨r,h1,h2⟩:=q20_.enter n (fun r=>r=(szN n:Int)) (by
  have ht:n<2^top .u32:=by simpa [top] using hn
  have e24:=Adg (k:=.u32) (a:=n) (i:=24) ht;have e16:=Adg (k:=.u32) (a:=n) (i:=16) ht;have e8:=Adg (k:=.u32) (a:=n) (i:=8) ht;rw [show ((24:Nat):Int)=24 from rfl] at e24;rw [show ((16:Nat):Int)=16 from rfl] at e16;rw [show ((8:Nat):Int)=8 from rfl] at e8;have a255:∀ a:Nat,a<2^32->bAnd .u32 (a:Int) 255=((a % 256:Nat):Int):=fun a ha=>by
   have:=Adq (k:=.u32) (a:=a) (b:=255) (by simpa [top] using ha) (by simp only [top];omega);rw [show ((255:Nat):Int)=255 from rfl] at this;rw [this,Bli]
  rw [e24,e16,e8,a255 _ (Nat.lt_of_le_of_lt (Nat.div_le_self _ _) hn),a255 _ (Nat.lt_of_le_of_lt (Nat.div_le_self _ _) hn),a255 _ hn];have h24:n / 2^24<256:=by omega
  have em:n / 2^24=n / 2^24 % 256:=(Nat.mod_eq_of_lt h24).symm;have hs:=Bfy n;rw [em];have m1:n / 2^24 % 256<256:=Nat.mod_lt _ (by omega);have m2:n / 2^16 % 256<256:=Nat.mod_lt _ (by omega);have m3:n / 2^8 % 256<256:=Nat.mod_lt _ (by omega);have m4:n % 256<256:=Nat.mod_lt _ (by omega);generalize n / 2^24 % 256=q1 at *;generalize n / 2^16 % 256=q2 at *;generalize n / 2^8 % 256=q3 at *;generalize n % 256=q4 at *;clear hn ht e24 e16 e8 a255 h24 em;refine ⟨UInt8.ofNat (pop8 q1),⟨by omega,?_⟩,UInt8.ofNat (pop8 q2),⟨by omega,?_⟩,UInt8.ofNat (pop8 q3),⟨by omega,?_⟩,UInt8.ofNat (pop8 q4),⟨by omega,?_⟩,?_⟩
  ·rw [Int.toNat_natCast];clear hs m2 m3 m4
   revert q1
   decide +kernel
  ·rw [Int.toNat_natCast];clear hs m1 m3 m4
   revert q2
   decide +kernel
  ·rw [Int.toNat_natCast];clear hs m1 m2 m4
   revert q3
   decide +kernel
  ·rw [Int.toNat_natCast];clear hs m1 m2 m3
   revert q4
   decide +kernel
  ·rw [Aqg,Aqg,Aqg,Aqg];have b1:=Amg (m:=q1);have b2:=Amg (m:=q2);have b3:=Amg (m:=q3);have b4:=Amg (m:=q4);have w8:∀ a b:Nat,a+b<256->IntKind.wrap .u8 ((a:Int)+(b:Int))=((a+b:Nat):Int):=fun a b h=>by
    rw [show (a:Int)+(b:Int)=((a+b:Nat):Int) by omega];exact Adh (k:=.u8) (by simpa [top] using h)
   rw [w8 _ _ (by omega),w8 _ _ (by omega),w8 _ _ (by omega),hs];have:pop8 q1+pop8 q2+pop8 q3+pop8 q4=pop8 q4+pop8 q3+pop8 q2+pop8 q1:=by omega
   rw [this]
   exact Agf (by omega) (by omega))
 rw [← h1];exact h2
theorem q59_.spec {x:Int} (hx:U32 x):q59_.C x (szN (sN x):Int):=by
 have:=q20_.spec hx.lt;rw [← hx.eq] at this;obtain ⟨r,h1,h2⟩:=q59_.enter x (fun r=>r=(szN (sN x):Int)) ⟨_,this,rfl⟩;rw [← h1];exact h2
def Af1:List api_FD->Nat->Nat
 | [],s=>s
 | d::l,s=>Af1 l (if sN d.Lhs &&& s=sN d.Lhs then s ||| sN d.Rhs else s)
def Alf (l:List api_FD):Nat->Nat->Nat
 | 0,s=>s
 | k+1,s=>Alf l k (Af1 l s)
def cloN (l:List api_FD) (s:Nat):Nat:=Alf l 33 s
def subN (a b:Nat):Prop:=∀ i,a.testBit i=true->b.testBit i=true
theorem Bfx (a:Nat):subN a a:=fun _ h=>h
theorem Aty {a b c:Nat} (h:subN a b) (k:subN b c):subN a c:=fun i hi=>k i (h i hi)
theorem Blb {a b:Nat}:subN a (a ||| b):=fun i hi=>by rw [Nat.testBit_or,hi];rfl
theorem Bfw {a b:Nat} (h:subN a b) (k:subN b a):a=b:=Nat.eq_of_testBit_eq fun i=>by
 cases ha:a.testBit i with
 | true=>exact (h i ha).symm
 | false=>
  cases hb:b.testBit i with
  | true=>rw [k i hb] at ha;cases ha
  | false=>rfl
theorem Aru:∀ {l:List api_FD} {s:Nat},subN s (Af1 l s)
 | [],s=>Bfx s
 | d::l,s=>by
  rw [Af1]
  split
  ·exact Aty Blb Aru
  ·exact Aru
theorem Ani:∀ {l:List api_FD} {s n:Nat},s<2^n->(∀ d∈l,sN d.Rhs<2^n)->Af1 l s<2^n
 | [],_,_,h,_=>h
 | d::l,s,n,h,hl=>by
  rw [Af1];refine Ani ?_ fun x hx=>hl x (by simp [hx])
  split
  ·exact Nat.or_lt_two_pow h (hl d (by simp))
  ·exact h
def Ax4 (l:List api_FD) (s:Nat):Prop:=∀ d∈l,subN (sN d.Lhs) s->subN (sN d.Rhs) s
theorem Apb:∀ {l:List api_FD} {s c:Nat},subN s c->Ax4 l c->subN (Af1 l s) c
 | [],_,_,h,_=>h
 | d::l,s,c,h,hc=>by
  rw [Af1];have hc':Ax4 l c:=fun x hx=>hc x (by simp [hx])
  split
  ·rename_i hs;refine Apb (fun i hi=>?_) hc';rw [Nat.testBit_or,Bool.or_eq_true] at hi;rcases hi with hi | hi
   ·exact h i hi
   ·exact hc d (by simp) (Aty (Aqe.1 hs) h) i hi
  ·exact Apb h hc'
theorem Awl {l:List api_FD} {s:Nat} (h:Af1 l s=s):∀ k,Alf l k s=s
 | 0=>rfl
 | k+1=>by rw [Alf,h];exact Awl h k
theorem Bn4 {a b:Nat} (hs:subN a b) (hne:a≠b) (hb:b<2^32):szN a<szN b:=by
 have hex:∃ i,b.testBit i=true/\a.testBit i=false:=by
  false_or_by_contra
  rename_i h;refine hne (Bfw hs fun i hi=>?_);cases ha:a.testBit i with
  | true=>rfl
  | false=>exact absurd ⟨i,hi,ha⟩ h
 obtain ⟨i,h1,h2⟩:=hex;have hmem:i∈Aah b:=(Ab1 hb).2 h1;have ha:a<2^32:=by
  refine Ace.2 fun j hj=>?_;exact Ace.1 hb j (hs j hj)
 have hsub:(Aah a).length+1<=(Aah b).length:=by
  have hnd:(i::Aah a).Nodup:=by
   rw [List.nodup_cons];refine ⟨fun h=>?_,(Agr (n:=a)).imp fun h=>by omega⟩;rw [Ab1 ha,h2] at h;cases h
  have:(i::Aah a) ⊆ Aah b:=by
   intro x hx;rcases List.mem_cons.1 hx with rfl | hx
   ·exact hmem
   ·exact (Ab1 hb).2 (hs x ((Ab1 ha).1 hx))
  exact hnd.length_le_of_subset this
 exact hsub
theorem Awm {l:List api_FD} {c:Nat} (hc:Ax4 l c):∀ {k s:Nat},subN s c->subN (Alf l k s) c
 | 0,_,h=>h
 | k+1,_,h=>Awm hc (k:=k) (Apb h hc)
theorem Azn {l:List api_FD} {n:Nat} (hl:∀ d∈l,sN d.Rhs<2^n):∀ {k s:Nat},s<2^n->Alf l k s<2^n
 | 0,_,h=>h
 | k+1,_,h=>Azn hl (k:=k) (Ani h hl)
theorem Bgu {l:List api_FD} {s c:Nat} (h:subN s c) (hc:Ax4 l c):subN (cloN l s) c:=Awm hc h
theorem Biz {l:List api_FD} {n s:Nat} (hl:∀ d∈l,sN d.Rhs<2^n) (hs:s<2^n):cloN l s<2^n:=Azn hl hs
theorem Bgc {t:api_Table} (hr:t.Rows.length<=1000) {l r:Nat}:RefP (ofP t l) (ofP t r)↔SatP t l r:=by
 have hb:Al1 (ofP t l) (ofP t r)=0:=by
  have v1:Acm (ofP t l)=true:=Anh (by rw [Afv];exact hr);have v2:Acm (ofP t r)=true:=Anh (by rw [Afv];exact hr);have e:(ofP t l).Rows=(ofP t r).Rows:=by simp [ofP,part,Afv]
  simp [Al1,v1,v2,e]
 have er:(ofP t l).Rows=(t.Rows.length:Int):=by simp [ofP,part,Afv]
 have key:∀ (n i j:Nat),i<t.Rows.length->j<t.Rows.length->(Same (ofP t n) i j↔(Aed t n)[i]? = (Aed t n)[j]?):=fun n i j hi hj=>by
  unfold ofP;rw [Bfh (by rw [Afv];omega) (by rw [Afv];omega),Abo,Abo]
 constructor
 ·rintro ⟨_,h⟩ i k hi hk e;exact (key r i k hi (by omega)).1 (h i k (by omega) (by omega) ((key l i k hi (by omega)).2 e))
 ·intro h;refine ⟨hb,fun i j hi hj hs=>?_⟩;obtain ⟨i,rfl⟩:∃ n:Nat,i=n:=⟨i.toNat,by omega⟩
  obtain ⟨j,rfl⟩:∃ n:Nat,j=n:=⟨j.toNat,by omega⟩
  exact (key r i j (by omega) (by omega)).2 (h.all (by omega) (by omega) ((key l i j (by omega) (by omega)).1 hs))
def Ahr (t:api_Table) (l r:Nat):Int:=if Ae7 t=0 then (if l ||| r<2^t.Attrs.length then 0 else 6) else Ae7 t
theorem q39_.spec {t:api_Table} {fd:api_FD} {l r:Nat} (hnum:TNum t) (el:fd.Lhs=l) (er:fd.Rhs=r) (hl:l<2^32) (hr:r<2^32):∃ q,q39_.C t fd q/\q.2=Ahr t l r/\(q.1=true↔Ahr t l r=0/\SatP t l r):=by
 obtain ⟨q,h1,h2⟩:=q39_.enter t fd (fun q=>q.2=Ahr t l r/\(q.1=true↔Ahr t l r=0/\SatP t l r)) (by
  refine ⟨_,q65_.spec,?_⟩;unfold Ahr
  split
  ·rename_i h0;have ht:=Agd.1 h0;rw [el,er,Aee (k:=.u32) (by simpa [top] using hl) (by simpa [top] using hr)];refine ⟨_,q30_.spec (Nat.or_lt_two_pow hl hr),?_⟩;by_cases hh:l ||| r<2^t.Attrs.length
   ·rw [if_pos (decide_eq_true hh),if_pos hh];have hll:l<2^t.Attrs.length:=Nat.lt_of_le_of_lt Nat.left_le_or hh;have hrr:r<2^t.Attrs.length:=Nat.lt_of_le_of_lt Nat.right_le_or hh;have sm:∀ m,Air (ofP t m):=fun m=>Bd5 (by rw [Afv];exact ht.nr);obtain ⟨b,hb,hbi⟩:=q27_.spec (sm l) (sm r);refine ⟨_,q58_.spec ht hnum hll,_,q58_.spec ht hnum hrr,b,hb,rfl,?_⟩;rw [hbi,Bgc ht.nr];simp
   ·rw [if_neg (by simpa using hh),if_neg hh];simp
  ·rename_i h0;simp [h0])
 exact ⟨q,h2,h1⟩
theorem Azf {l:List Int} {x:Int} (hn:l.length<1000000000):q13_.C l x (decide (x∈l)):=by
 have am:(l.any fun a=>decide (x=a))=decide (x∈l):=by
  rw [Bool.eq_iff_iff,List.any_eq_true,decide_eq_true_eq];constructor
  ·rintro ⟨a,ha,h⟩;rw [of_decide_eq_true h];exact ha
  ·intro h;exact ⟨x,h,decide_eq_true rfl⟩
 obtain ⟨q,g1,g2⟩:=q16_.enter l x (fun r=>r=ixI (fun a=>decide (x=a)) l) (by
  refine An6 (l:=l) (p:=fun a=>decide (x=a)) (L:=fun i=>q16_.L1 l x i _) (φ:=fun r=>r=ixI (fun a=>decide (x=a)) l) ?_ ?_ rfl
  ·intro h;apply q16_.L1_step;rw [if_neg (by omega)];exact h
  ·intro k a ha hk h;apply q16_.L1_step;rw [if_pos (by omega)];refine ⟨a,Ad9 ha,?_⟩;rw [Aa3 (by omega)];by_cases hx:x=a
   ·rw [if_pos hx];rw [if_pos (decide_eq_true hx)] at h;exact h
   ·rw [if_neg hx];rw [if_neg (by rw [decide_eq_false hx];decide)] at h;exact h)
 subst g1;obtain ⟨r,h1,h2⟩:=q13_.enter l x (fun r=>r=decide (x∈l)) ⟨_,g2,by rw [Auq,am]⟩;rw [← h1];exact h2
end Go.Own
