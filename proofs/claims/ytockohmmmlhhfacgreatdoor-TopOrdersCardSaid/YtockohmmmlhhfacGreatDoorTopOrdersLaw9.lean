/- What the functions answer. No conditions. -/
import Derived.Test.YtockohmmmlhhfacGreatDoorTopOrdersLaw5
import Derived.Test.YtockohmmmlhhfacGreatDoorTopOrdersLaw1
import Derived.Test.YtockohmmmlhhfacGreatDoorTopOrdersLaw8
import Derived.Test.YtockohmmmlhhfacGreatDoorTopOrdersLaw4
set_option linter.all false
namespace Go.Own
def letB (x:Int):Bool:=decide (97<=x/\x<=122∨65<=x/\x<=90∨x=95)
def alnB (x:Int):Bool:=letB x || decide (48<=x/\x<=57)
def Aq4:List UInt8:=[110,117,108,108]
theorem Bck:((⟨#[110,117,108,108]⟩:ByteArray)).toList=Aq4:=Akr (l:=Aq4)
theorem Atl:((⟨#[]⟩:ByteArray)).toList=[]:=Akr (l:=[])
def Acg:List UInt8->Bool
 | []=>false
 | b::r=>decide (r.length<24)&&letB (u8i b)&&!decide (b::r=Aq4)&&r.all fun b=>alnB (u8i b)
def Ah9 (s:ByteArray):Bool:=Acg s.toList
theorem Bar {φ:Bool->Prop} {P:Prop} {x:Int} (h:if alnB x=true then P else φ false) (hl:¬ letB x=true):if x<48 then φ false else if 57<x then φ false else P:=by
 have e:alnB x=decide (48<=x/\x<=57):=by unfold alnB;rw [Bool.eq_false_iff.2 hl,Bool.false_or]
 rw [e] at h
 repeat' split
 ·rw [if_neg (by rw [decide_eq_true_iff];omega)] at h;exact h
 ·rw [if_neg (by rw [decide_eq_true_iff];omega)] at h;exact h
 ·rw [if_pos (by rw [decide_eq_true_iff];omega)] at h;exact h
namespace q67_
theorem two {s:ByteArray} {i:Int} {φ:Bool->Prop} {x:Int} (h:if letB x=true then L3 s i φ else if i=0 then φ false else if x<48 then φ false else if 57<x then φ false else L3 s i φ):L2 s i x (letB x) φ:=by
 apply L2_step;exact h
theorem spec {s : ByteArray} : C s (Ah9 s) := by
  obtain ⟨r, h1, h2⟩ := enter s (fun r => r = Ah9 s) (by
    unfold Ah9;rw [Ago, Bck, Atl];cases hs : s.toList with
    | nil => simp [Acg]
    | cons b t =>
      rw [if_neg (by simp)]
      split
      · rename_i hn
        have hn : 24 <= t.length := by simp at hn; omega
        simp [Acg]; omega
      · rename_i hn
        have hn : t.length < 24 := by simp at hn; omega
        have hlen : s.toList.length = t.length + 1 := by rw [hs]; rfl
        split
        · rename_i h0
          simp [Acg, Aq4, h0]
        · rename_i h0
          have body : ∀ (k : Nat) c, s.toList[k]? = some c -> (if letB (u8i c) = true then L1 s ((k + 1 : Nat) : Int) (fun r => r = Acg (b :: t)) else if (k : Int) = 0 then false = Acg (b :: t) else if (u8i c) < 48 then false = Acg (b :: t) else if 57 < (u8i c) then false = Acg (b :: t) else L1 s ((k + 1 : Nat) : Int) (fun r => r = Acg (b :: t))) -> L1 s k (fun r => r = Acg (b :: t)) := by
            intro k c hc h;have hk := (List.getElem?_eq_some_iff.1 hc).1;apply L1_step;rw [Ago, if_pos (by omega)];refine ⟨c, Aqr hc, ?_⟩;have next : L1 s ((k + 1 : Nat) : Int) (fun r => r = Acg (b :: t)) -> L3 s k fun r => r = Acg (b :: t) := fun h => by
              apply L3_step;rw [Aa4 (by omega)];exact h
            have key : L2 s k (u8i c) (letB (u8i c)) fun r => r = Acg (b :: t) := by
              apply two
              split
              · rename_i hh; rw [if_pos hh] at h; exact next h
              · rename_i hh; rw [if_neg hh] at h
                split
                · rename_i h2; rw [if_pos h2] at h; exact h
                · rename_i h2; rw [if_neg h2] at h
                  split
                  · rename_i h3; rw [if_pos h3] at h; exact h
                  · rename_i h3; rw [if_neg h3] at h
                    split
                    · rename_i h4; rw [if_pos h4] at h; exact h
                    · rename_i h4; rw [if_neg h4] at h; exact next h
            have e : ∀ v, v = letB (u8i c) -> L2 s k (u8i c) v fun r => r = Acg (b :: t) := by rintro _ rfl; exact key
            repeat' split
            all_goals apply e
            all_goals unfold letB
            all_goals first
              | (symm; rw [decide_eq_true_iff]; omega)
              | (by_cases h : u8i c = 95
                 · simp [h]
                 · have : (u8i c == 95) = false := by simpa using h
                   rw [this]; symm; rw [decide_eq_false_iff_not]; omega)
          have h0s : s.toList[0]? = some b := by rw [hs]; rfl
          refine body 0 b h0s ?_
          split
          · rename_i hb
            have rest := Bap (l := t) (p := fun b => alnB (u8i b)) (L := fun i => L1 s (i + 1) fun r => r = Acg (b :: t)) (φ := fun r => r = Acg (b :: t)) ?_ ?_ ?_
            · simpa using rest
            · intro h
              apply L1_step;rw [Ago, if_neg (by omega)]; exact h
            · intro k c hc hk h
              have e1 : ((k : Nat) : Int) + 1 = ((k + 1 : Nat) : Int) := by omega
              rw [e1];refine body (k + 1) c (by rw [hs]; simpa using hc) ?_
              split
              · rename_i hl
                rw [if_pos (by unfold alnB; rw [hl]; rfl)] at h;exact h
              · rename_i hl
                rw [if_neg (by omega)];exact Bar (φ := fun r => r = Acg (b :: t)) h hl
            · simp [Acg, hb, h0, hn]
          · rename_i hb
            simp [Acg, hb])
  rw [← h1]; exact h2
end q67_
def eqS (x a:ByteArray):Bool:=decide (a=x)
def Aez:List ByteArray->List ByteArray->Bool
 | _,[]=>true
 | pre,a::r=>Ah9 a&&!pre.any (eqS a)&&Aez (pre++[a]) r
def Af8 (l:List ByteArray):Bool:=Aez [] l
namespace q19_
theorem spec {l:List ByteArray} {x:ByteArray} (hn:l.length<Big):C l x (ixI (eqS x) l):=by
 obtain ⟨r,h1,h2⟩:=enter l x (fun r=>r=ixI (eqS x) l) (by
  refine Ahv (l:=l) (p:=eqS x) (L:=fun i=>L1 l x i _) (φ:=fun r=>r=ixI (eqS x) l) ?_ ?_ rfl
  ·intro h;apply L1_step;rw [if_neg (by omega)];exact h
  ·intro k a ha hk h;apply L1_step;rw [if_pos (by omega)];refine ⟨a,Aaq ha,?_⟩;rw [Aa4 (by unfold Big at hn;omega)]
   split
   ·rename_i hh;rw [if_pos (by simp [eqS,Alu.1 hh])] at h;exact h
   ·rename_i hh;rw [if_neg (by simp only [eqS,decide_eq_true_eq];rintro rfl;exact hh rfl)] at h;exact h)
 rw [← h1];exact h2
end q19_
theorem q17_.spec {l:List ByteArray} {x:ByteArray} (hn:l.length<Big):q17_.C l x (l.any (eqS x)):=by
 obtain ⟨r,h1,h2⟩:=q17_.enter l x (fun r=>r=l.any (eqS x)) ⟨_,q19_.spec hn,by rw [An0]⟩;rw [← h1];exact h2
theorem Axn {l : List ByteArray} {L : Int -> Prop} {P Q : Prop} (stop : P -> L (l.length : Int))
    (step : ∀ (k : Nat) a, l[k]? = some a -> k < l.length -> (if Ah9 a = true then (if (l.take k).any (eqS a) = true then Q else L ((k + 1 : Nat) : Int)) else Q) -> L k) (h : Af8 l = true -> P) (h' : Af8 l = false -> Q) : L 0 := by
  have : ∀ (r : List ByteArray) (k : Nat), l.drop k = r -> k <= l.length -> (Aez (l.take k) r = true -> P) -> (Aez (l.take k) r = false -> Q) -> L k := by
    intro r
    induction r with
    | nil => intro k hd hk h h'; have : k = l.length := by have := Ab3 hd; omega
             subst this; exact stop (h rfl)
    | cons a r ih =>
      intro k hd hk h h';have hlt := Ab4 hd;refine step k a (Aap hd) hlt ?_;have hn := ih (k + 1) (Aah hd) hlt;have e : l.take (k + 1) = l.take k ++ [a] := by rw [List.take_add_one, Aap hd]; rfl
      rw [e] at hn;simp only [Aez] at h h'
      split
      · rename_i h1
        split
        · rename_i h2
          exact h' (by simp [h1, h2])
        · rename_i h2
          have h2 := Bool.eq_false_iff.2 h2;exact hn (fun hh => h (by simp [h1, h2, hh])) (fun hh => h' (by simp [h1, h2, hh]))
      · rename_i h1
        have h1 := Bool.eq_false_iff.2 h1;exact h' (by simp [h1])
  exact this l 0 rfl (Nat.zero_le _) h h'
def Aas (v:api_Value):Bool:=decide (v.Kind=0/\v.Num=0/\v.Str.toList=[]∨v.Kind=1/\v.Str.toList=[]∨v.Kind=2/\v.Num=0/\v.Str.toList.length<=200∨v.Kind=3/\1<=v.Num/\v.Str.toList=[])
theorem Ayc {v : api_Value} {φ : Bool -> Prop} (h : φ (Aas v)) : (if v.Kind = 0 then (if v.Num = 0 then φ ((v.Str.toList == ((⟨#[]⟩ : ByteArray)).toList)) else φ false) else (if v.Kind = 1 then φ ((v.Str.toList == ((⟨#[]⟩ : ByteArray)).toList)) else (if v.Kind = 2 then (if v.Num = 0 then φ ((decide ((Afc v.Str) <= 200))) else φ false) else (if v.Kind = 3 then (if 1 <= v.Num then φ ((v.Str.toList == ((⟨#[]⟩ : ByteArray)).toList)) else φ false) else φ false)))) := by
  have e : ∀ b, b = Aas v -> φ b := by rintro _ rfl; exact h
  have e0 : (v.Str.toList == ((⟨#[]⟩ : ByteArray)).toList) = decide (v.Str.toList = []) := by
    rw [Atl];by_cases h : v.Str.toList = []
    · simp [h]
    · simp [h]
  rw [e0, Ago]
  repeat' split
  all_goals apply e
  all_goals unfold Aas
  all_goals first
    | (rw [decide_eq_decide]; omega)
    | (symm; rw [decide_eq_false_iff_not]; omega)
    | (rw [decide_eq_decide]; constructor
       · intro h; simp_all
       · intro h; simp_all)
theorem q72_.spec {v:api_Value}:q72_.C v (Aas v):=by
 obtain ⟨r,h1,h2⟩:=q72_.enter v (fun r=>r=Aas v) (Ayc (φ:=fun r=>r=Aas v) rfl);rw [← h1];exact h2
def Ae9 (l:List api_Value):Bool:=l.all Aas
theorem q30_.spec {v:api_Value}:q30_.C v (!Aas v):=by
 obtain ⟨r,h1,h2⟩:=q30_.enter v (fun r=>r=!Aas v) ⟨_,q72_.spec,rfl⟩;rw [← h1];exact h2
namespace q1_
theorem spec {l:List api_Value} (hn:l.length<Big):C l (ixI (fun v=>!Aas v) l):=by
 obtain ⟨r,h1,h2⟩:=enter l (fun r=>r=ixI (fun v=>!Aas v) l) (by
  refine Ahv (l:=l) (p:=fun v=>!Aas v) (L:=fun i=>L1 l i _) (φ:=fun r=>r=ixI (fun v=>!Aas v) l) ?_ ?_ rfl
  ·intro h;apply L1_step;rw [if_neg (by omega)];exact h
  ·intro k a ha hk h;apply L1_step;rw [if_pos (by omega)];refine ⟨a,Aaq ha,_,q30_.spec,?_⟩;rw [Aa4 (by unfold Big at hn;omega)]
   exact h)
 rw [← h1];exact h2
end q1_
theorem q0_.spec {l:List api_Value} (hn:l.length<Big):q0_.C l (!Ae9 l):=by
 obtain ⟨r,h1,h2⟩:=q0_.enter l (fun r=>r=!Ae9 l) ⟨_,q1_.spec hn,by
  rw [An0];unfold Ae9;rw [List.any_eq_not_all_not];simp⟩
 rw [← h1];exact h2
theorem q37_.spec {l:List api_Value} (hn:l.length<Big):q37_.C l (Ae9 l):=by
 obtain ⟨r,h1,h2⟩:=q37_.enter l (fun r=>r=Ae9 l) ⟨_,q0_.spec hn,by
  show (!(!Ae9 l))=_
  rw [Bool.not_not]⟩
 rw [← h1];exact h2
def Ae1 (n:Nat):Int->List api_Row->Int
 | _,[]=>0
 | last,r::rs=>if r.ID<=last then 1 else if r.Values.length=n then (if Ae9 r.Values=true then Ae1 n r.ID rs else 1) else 6
def Aiy (t:api_Table):Int:=if Ah9 t.Name=true then (if 16<t.Attrs.length then 3 else if 1000<t.Rows.length then 3 else if Af8 t.Attrs=true then Ae1 t.Attrs.length 0 t.Rows else 1) else 1
theorem Ba6 {n : Nat} {l : List api_Row} {L : Int -> Int -> Prop} {φ : Int -> Prop} (stop : ∀ last, φ 0 -> L last (l.length : Int))
    (step : ∀ (k : Nat) r last, l[k]? = some r -> k < l.length -> (if r.ID <= last then φ 1 else if r.Values.length = n then (if Ae9 r.Values = true then L r.ID ((k + 1 : Nat) : Int) else φ 1) else φ 6) -> L last k) (h : φ (Ae1 n 0 l)) : L 0 0 := by
  have : ∀ (r : List api_Row) (k : Nat) (last : Int), l.drop k = r -> k <= l.length -> φ (Ae1 n last r) -> L last k := by
    intro r
    induction r with
    | nil => intro k last hd hk h; have : k = l.length := by have := Ab3 hd; omega
             subst this; exact stop _ h
    | cons a r ih =>
      intro k last hd hk h;have hlt := Ab4 hd;refine step k a last (Aap hd) hlt ?_;simp only [Ae1] at h
      split
      · rename_i h1; rw [if_pos h1] at h; exact h
      · rename_i h1; rw [if_neg h1] at h
        split
        · rename_i h2; rw [if_pos h2] at h
          split
          · rename_i h3; rw [if_pos h3] at h; exact ih (k + 1) _ (Aah hd) hlt h
          · rename_i h3; rw [if_neg h3] at h; exact h
        · rename_i h2; rw [if_neg h2] at h; exact h
  exact this l 0 0 rfl (Nat.zero_le _) h
namespace q73_
theorem rows {t:api_Table} {φ:Int->Prop} (hr:t.Rows.length<=1000) (ha:t.Attrs.length<=16) (h:φ (Ae1 t.Attrs.length 0 t.Rows)):L2 t 0 0 φ:=by
 refine Ba6 (n:=t.Attrs.length) (l:=t.Rows) (L:=fun last i=>L2 t last i φ) (φ:=φ) ?_ ?_ h
 ·intro last h;apply L2_step;rw [if_neg (by omega)];exact h
 ·intro k r last hr hk h;apply L2_step;rw [if_pos (by omega)];refine ⟨r,Aaq hr,?_⟩
  split
  ·rename_i h1;rw [if_pos h1] at h;exact h
  ·rename_i h1;rw [if_neg h1] at h
   split
   ·rename_i h2;have h2:r.Values.length=t.Attrs.length:=by omega
    rw [if_pos h2] at h;refine ⟨_,q37_.spec (by unfold Big;omega),?_⟩;rw [Aa4 (by omega)];exact h
   ·rename_i h2;rw [if_neg (by omega)] at h;exact h
theorem spec {t:api_Table}:C t (Aiy t):=by
 obtain ⟨r,h1,h2⟩:=enter t (fun r=>r=Aiy t) (by
  refine ⟨_,q67_.spec,?_⟩;unfold Aiy
  split
  ·by_cases h1:16<t.Attrs.length
   ·rw [if_pos (by omega),if_pos h1]
   ·rw [if_neg (by omega),if_neg h1];by_cases h2:1000<t.Rows.length
    ·rw [if_pos (by omega),if_pos h2]
    ·rw [if_neg (by omega),if_neg h2];refine Axn (l:=t.Attrs) (L:=fun i=>L1 t i _) (P:=Ae1 t.Attrs.length 0 t.Rows=if Af8 t.Attrs=true then Ae1 t.Attrs.length 0 t.Rows else 1) (Q:=(1:Int)=if Af8 t.Attrs=true then Ae1 t.Attrs.length 0 t.Rows else 1) ?_ ?_ ?_ ?_
     ·intro h;apply L1_step;rw [if_neg (by omega)];exact rows (φ:=fun r=>r=if Af8 t.Attrs=true then Ae1 t.Attrs.length 0 t.Rows else 1) (by omega) (by omega) h
     ·intro k a ha hk h;apply L1_step;rw [if_pos (by omega)];refine ⟨a,Aaq ha,_,q67_.spec,?_⟩
      split
      ·rename_i h1;rw [if_pos h1] at h;refine ⟨by omega,by omega,_,q17_.spec (by rw [List.length_take];unfold Big;omega),?_⟩;rw [Int.toNat_natCast,Nat.sub_zero,Aa4 (by omega)];exact h
      ·rename_i h1;rw [if_neg h1] at h;exact h
     ·intro h;rw [if_pos h]
     ·intro h;rw [if_neg (by rw [h];decide)]
  ·rfl)
 rw [← h1];exact h2
end q73_
namespace q46_
theorem loop {φ:List Int->Prop}:∀ (n:Nat) (acc:List Int),n<2^32->acc.length+(Aba n).length<=1000->φ (acc++(Aba n).map fun (i:Nat)=>(i:Int))->L1 n acc φ:=by
 intro n
 induction n using Nat.strongRecOn with
 | _ n ih=>
  intro acc hn hl h;apply L1_step;by_cases h0:n=0
  ·subst h0;rw [Avb] at h;rw [if_pos (by omega)];simpa using h
  ·rw [if_neg (by omega)];rw [Ava h0 hn] at hl h;simp only [List.length_cons] at hl;refine ⟨by omega,by omega,?_⟩;have e1:IntKind.wrap .u32 ((n:Int)-1)=((n-1:Nat):Int):=by
    have:(n:Int)-1=((n-1:Nat):Int):=by omega
    rw [this];exact Afo (k:=.u32) (by simp only [top];omega)
   rw [e1,Ati (k:=.u32) (by simpa [top] using hn) (by simp only [top];omega)];refine ih _ (Baz h0) _ (Nat.lt_of_le_of_lt Nat.and_le_left hn) (by rw [List.length_append,List.length_singleton];omega) ?_;have e2:tz32 (n:Int)=((Abq n 32 0:Nat):Int):=by unfold tz32;rw [Int.toNat_natCast]
   rw [e2];simpa using h
theorem spec {n:Nat} (hn:n<2^32):C n ((Aba n).map fun (i:Nat)=>(i:Int)):=by
 obtain ⟨r,h1,h2⟩:=enter n (fun r=>r=(Aba n).map fun (i:Nat)=>(i:Int)) (loop n [] hn (by have:=Ap0 (n:=n);simp;omega) (by simp));rw [← h1];exact h2
end q46_
end Go.Own

namespace Go.Own
theorem Ahi {a b:Int}:cmpI a b=0↔a=b:=by
 unfold cmpI;repeat' split
 all_goals omega
def cmpL:List UInt8->List UInt8->Int
 | [],[]=>0
 | [],_::_=>-1
 | _::_,[]=>1
 | a::r,b::s=>if a=b then cmpL r s else cmpI (u8i a) (u8i b)
theorem Arm:∀ {a b:List UInt8},cmpL a b=0↔a=b
 | [],[]=>by simp [cmpL]
 | [],_::_=>by simp [cmpL]
 | _::_,[]=>by simp [cmpL]
 | a::r,b::s=>by
  simp only [cmpL]
  split
  ·rename_i h;subst h;rw [Arm];simp
  ·rename_i h;rw [Ahi,Ane];simp [h]
def cmpS (a b:ByteArray):Int:=cmpL a.toList b.toList
def cmpV (v w:api_Value):Int:=if cmpI v.Kind w.Kind=0 then (if cmpI v.Num w.Num=0 then cmpS v.Str w.Str else cmpI v.Num w.Num) else cmpI v.Kind w.Kind
theorem Arn {v w:api_Value}:cmpV v w=0↔v=w:=by
 obtain ⟨k,n,s⟩:=v;obtain ⟨k',n',s'⟩:=w;unfold cmpV cmpS;simp only [api_Value.mk.injEq]
 split
 ·rename_i h1;rw [Ahi] at h1
  split
  ·rename_i h2;rw [Ahi] at h2;rw [Arm,Alu];simp [h1,h2]
  ·rename_i h2;have h3:=h2;rw [Ahi] at h3;simp [h2,h3]
 ·rename_i h1;have h3:=h1;rw [Ahi] at h3;simp [h1,h3]
def be:Nat->Nat->List Int
 | 0,_=>[]
 | j+1,u=>((u / 2^(8*j) % 256:Nat):Int)::be j u
theorem Aoz:∀ {j u},(be j u).length=j
 | 0,_=>rfl
 | j+1,u=>by simp [be,Aoz]
theorem Atj:∀ {j u},∀ x∈be j u,0<=x/\x<256
 | 0,_,_,h=>by simp [be] at h
 | j+1,u,x,h=>by
  simp only [be,List.mem_cons] at h;rcases h with rfl | h
  ·omega
  ·exact Atj x h
theorem Ayt:∀ {j u v},be j u=be j v->u % 2^(8*j)=v % 2^(8*j)
 | 0,u,v,_=>by simp [Nat.mod_one]
 | j+1,u,v,h=>by
  simp only [be,List.cons.injEq] at h;have ih:=Ayt h.2;have e:2^(8*(j+1))=2^(8*j)*256:=by rw [Nat.mul_add,Nat.pow_add]
  rw [e,Nat.mod_mul,Nat.mod_mul,ih];have:u / 2^(8*j) % 256=v / 2^(8*j) % 256:=by omega
  rw [this]
def Ag4 (n:Int):Nat:=(n % 18446744073709551616).toNat ^^^ 9223372036854775808
theorem Am5 {n:Int}:Ag4 n<2^64:=Nat.xor_lt_two_pow (by omega) (by decide)
theorem Ax8 {m n:Int} (hm : -9223372036854775808<=m/\m<9223372036854775808) (hn : -9223372036854775808<=n/\n<9223372036854775808) (h:Ag4 m=Ag4 n):m=n:=by
 unfold Ag4 at h;have h2:(m % 18446744073709551616).toNat=(n % 18446744073709551616).toNat:=by
  have:=congrArg (· ^^^ 9223372036854775808) h;simpa [Nat.xor_assoc] using this
 omega
namespace q68_
theorem loop {φ:List Int->Prop} {u:Nat} (hu:u<2^64):∀ (j:Nat) (acc:List Int),j<=8->acc.length+j<=1000->φ (acc++be j u)->L1 acc u (8*(j:Int)-8) φ
 | 0,acc,hj,hl,h=>by
  apply L1_step;rw [if_neg (by omega)];simpa [be] using h
 | j+1,acc,hj,hl,h=>by
  apply L1_step;rw [if_pos (by omega)];refine ⟨by omega,by omega,?_⟩;have e1:8*((j+1:Nat):Int)-8=((8*j:Nat):Int):=by omega
  rw [e1,Afn (k:=.u64) (by simpa [top] using hu),IntKind.wrap_u8,Abz (by omega) (by omega)];have e2:((8*j:Nat):Int)-8=8*(j:Int)-8:=by omega
  rw [e2];refine loop hu j _ (by omega) (by simp;omega) ?_;have e3:((u / 2^(8*j):Nat):Int) % 256=((u / 2^(8*j) % 256:Nat):Int):=by omega
  rw [e3];simpa [be] using h
theorem spec {n:Int} {acc:List Int} (hl:acc.length<=900):C n acc (acc++be 8 (Ag4 n)):=by
 obtain ⟨r,h1,h2⟩:=enter n acc (fun r=>r=acc++be 8 (Ag4 n)) (by
  have e:bXor .u64 (IntKind.wrap .u64 n) 9223372036854775808=(Ag4 n:Int):=by
   have e1:IntKind.wrap .u64 n=(((n % 18446744073709551616).toNat:Nat):Int):=by
    simp only [IntKind.wrap,IntKind.bits,IntKind.signed];simp;omega
   rw [e1];exact Bau (k:=.u64) (b:=9223372036854775808) (by simp only [top];omega) (by simp only [top];omega)
  rw [e]
  exact loop Am5 8 acc (by omega) (by omega) rfl)
 rw [← h1];exact h2
end q68_
def esc:List UInt8->List Int
 | []=>[]
 | b::r=>if u8i b=0 then 0::255::esc r else u8i b::esc r
theorem Bb5 {l:List UInt8} {b:UInt8}:esc (l++[b])=esc l++esc [b]:=by
 induction l with
 | nil=>rfl
 | cons a l ih=>simp only [List.cons_append,esc,ih];split<;>rfl
theorem Aja:∀ {l:List UInt8},∀ x∈esc l,0<=x/\x<256
 | [],x,h=>by simp [esc] at h
 | b::r,x,h=>by
  simp only [esc] at h
  split at h
  ·simp only [List.mem_cons] at h;rcases h with rfl | rfl | h
   ·omega
   ·omega
   ·exact Aja x h
  ·simp only [List.mem_cons] at h;rcases h with rfl | h
   ·exact Bgk
   ·exact Aja x h
theorem Amy:∀ {l:List UInt8},(esc l).length<=2*l.length
 | []=>by simp [esc]
 | b::r=>by
  have:=Amy (l:=r);simp only [esc]
  split<;>simp only [List.length_cons]<;>omega
theorem Aqt:∀ {a b:List UInt8} {r s:List Int},esc a++(0::1::r)=esc b++(0::1::s)->a=b/\r=s
 | [],[],r,s,h=>by simpa [esc] using h
 | [],y::b,r,s,h=>by
  simp only [esc] at h
  split at h
  ·simp at h
  ·rename_i hy;simp only [List.nil_append,List.cons_append,List.cons.injEq] at h;exact absurd h.1.symm hy
 | x::a,[],r,s,h=>by
  simp only [esc] at h
  split at h
  ·simp at h
  ·rename_i hx;simp only [List.nil_append,List.cons_append,List.cons.injEq] at h;exact absurd h.1 hx
 | x::a,y::b,r,s,h=>by
  simp only [esc] at h
  split at h
  ·rename_i hx
   split at h
   ·rename_i hy;simp only [List.cons_append,List.cons.injEq,true_and] at h;obtain ⟨h1,h2⟩:=Aqt h;exact ⟨by rw [h1,Ane.1 (hx.trans hy.symm)],h2⟩
   ·rename_i hy;simp only [List.cons_append,List.cons.injEq] at h;exact absurd h.1.symm hy
  ·rename_i hx
   split at h
   ·rename_i hy;simp only [List.cons_append,List.cons.injEq] at h;exact absurd h.1 hx
   ·rename_i hy;simp only [List.cons_append,List.cons.injEq] at h;obtain ⟨h1,h2⟩:=Aqt h.2;exact ⟨by rw [h1,Ane.1 h.1],h2⟩
def keyJ (v:api_Value):List Int:=v.Kind::(if v.Kind=1∨v.Kind=3 then be 8 (Ag4 v.Num) else if v.Kind=2 then esc v.Str.toList++[0,1] else [])
def Ahs (v:api_Value):Prop:=-9223372036854775808<=v.Num/\v.Num<9223372036854775808
theorem Aeu {v:api_Value} (h:Aas v=true):v.Kind=0/\v.Num=0/\v.Str.toList=[]∨v.Kind=1/\v.Str.toList=[]∨v.Kind=2/\v.Num=0/\v.Str.toList.length<=200∨v.Kind=3/\1<=v.Num/\v.Str.toList=[]:=by
 simpa [Aas] using h
theorem App {v:api_Value} (h:Aas v=true):∀ x∈keyJ v,0<=x/\x<256:=by
 intro x hx;have hk:0<=v.Kind/\v.Kind<=3:=by rcases Aeu h with h | h | h | h<;>omega
 simp only [keyJ,List.mem_cons] at hx;rcases hx with rfl | hx
 ·omega
 ·split at hx
  ·exact Atj x hx
  ·split at hx
   ·rcases List.mem_append.1 hx with hx | hx
    ·exact Aja x hx
    ·simp at hx;rcases hx with rfl | rfl<;>omega
   ·simp at hx
theorem Au8 {v:api_Value} (h:Aas v=true):(keyJ v).length<=403:=by
 simp only [keyJ,List.length_cons]
 split
 ·rw [Aoz];omega
 ·split
  ·have:=Amy (l:=v.Str.toList);have:v.Str.toList.length<=200:=by
    rcases Aeu h with h | h | h | h
    ·rw [h.2.2];simp
    ·rw [h.2];simp
    ·exact h.2.2
    ·rw [h.2.2];simp
   simp;omega
  ·simp
theorem Bbe {v w:api_Value} {r s:List Int} (hv:Aas v=true) (hw:Aas w=true) (nv:Ahs v) (nw:Ahs w) (h:keyJ v++r=keyJ w++s):v=w/\r=s:=by
 obtain ⟨k,n,t⟩:=v;obtain ⟨k',n',t'⟩:=w;simp only [keyJ,List.cons_append,List.cons.injEq] at h;obtain ⟨rfl,h⟩:=h;have hv:=Aeu hv;have hw:=Aeu hw;simp only at hv hw;simp only [api_Value.mk.injEq,true_and];by_cases h1:k=1∨k=3
 ·rw [if_pos h1,if_pos h1] at h;have h3:=List.append_inj h (by rw [Aoz,Aoz]);have h2:=Ayt h3.1;rw [Nat.mod_eq_of_lt Am5,Nat.mod_eq_of_lt Am5] at h2;have e:=Ax8 nv nw h2;simp only at e;refine ⟨⟨e,?_⟩,h3.2⟩;rw [← Alu];have a1:t.toList=[]:=by rcases hv with h | h | h | h<;>first | exact h.2.2 | exact h.2 | omega
  have a2:t'.toList=[]:=by rcases hw with h | h | h | h<;>first | exact h.2.2 | exact h.2 | omega
  rw [a1,a2]
 ·rw [if_neg h1,if_neg h1] at h;by_cases h2:k=2
  ·rw [if_pos h2,if_pos h2,List.append_assoc,List.append_assoc] at h;obtain ⟨e1,e2⟩:=Aqt h;rw [Alu] at e1;exact ⟨⟨by omega,e1⟩,e2⟩
  ·rw [if_neg h2,if_neg h2] at h;have a1:t.toList=[]:=by rcases hv with h | h | h | h<;>first | exact h.2.2 | exact h.2 | omega
   have a2:t'.toList=[]:=by rcases hw with h | h | h | h<;>first | exact h.2.2 | exact h.2 | omega
   exact ⟨⟨by omega,by rw [← Alu,a1,a2]⟩,by simpa using h⟩
def keyW (v:api_Value):ByteArray:=Aks (keyJ v)
namespace q75_
theorem loop {v:api_Value} {φ:ByteArray×Int->Prop} (hk:v.Kind=2) (hs:v.Str.toList.length<=200) (h:φ (keyW v,0)):∀ (r:List UInt8) (k:Nat),v.Str.toList.drop k=r->k<=v.Str.toList.length->L1 v (2::esc (v.Str.toList.take k)) k φ:=by
 intro r
 induction r with
 | nil=>
  intro k hd hk2;apply L1_step;have:=Ab3 hd;rw [Ago,if_neg (by omega),List.take_of_length_le this];have hl:=Amy (l:=v.Str.toList);have e:keyJ v=(2::esc v.Str.toList)++[0,1]:=by simp [keyJ,hk]
  refine ⟨by simp only [List.length_cons];omega,fun x hx=>?_,?_⟩
  ·rcases List.mem_append.1 hx with hx | hx
   ·rcases List.mem_cons.1 hx with rfl | hx
    ·omega
    ·exact Aja x hx
   ·simp at hx;rcases hx with rfl | rfl<;>omega
  ·rw [← e];exact h
 | cons b r ih=>
  intro k hd hk2;have hlt:=Ab4 hd;apply L1_step;rw [Ago,if_pos (by omega)];have hl:=Amy (l:=v.Str.toList.take k);rw [List.length_take] at hl;refine ⟨b,Aqr (Aap hd),by simp only [List.length_cons];omega,b,Aqr (Aap hd),?_⟩;have ih:=ih (k+1) (Aah hd) hlt;have e:v.Str.toList.take (k+1)=v.Str.toList.take k++[b]:=by rw [List.take_add_one,Aap hd];rfl
  rw [e,Bb5] at ih;have next:∀ l,l=2::(esc (v.Str.toList.take k)++esc [b])->L4 v l k φ:=by
   rintro _ rfl;apply L4_step;rw [Aa4 (by omega)];exact ih
  split
  ·rename_i h0;refine ⟨by simp only [List.length_append,List.length_cons,List.length_nil];omega,next _ ?_⟩;simp [esc,h0]
  ·rename_i h0;exact next _ (by simp [esc,h0])
theorem spec {v:api_Value} (hv:Aas v=true):C v (keyW v,0):=by
 obtain ⟨r,h1,h2⟩:=enter v (fun r=>r=(keyW v,0)) (by
  refine ⟨_,q72_.spec,?_⟩;rw [if_pos hv];have hc:=Aeu hv;have hk:0<=v.Kind/\v.Kind<=3:=by rcases hc with h | h | h | h<;>omega
  have ek:IntKind.wrap .u8 v.Kind=v.Kind:=by rw [IntKind.wrap_u8];omega
  have two:∀ b,(v.Kind=1∨v.Kind=3)->L2 v b fun r=>r=(keyW v,0):=by
   intro b hb;apply L2_step;rw [ek];have e:keyJ v=[v.Kind]++be 8 (Ag4 v.Num):=by simp [keyJ,hb]
   refine ⟨_,q68_.spec (by simp),?_,?_⟩
   ·rw [← e];exact App hv
   ·rw [← e];rfl
  have three:¬ (v.Kind=1∨v.Kind=3)->L3 v fun r=>r=(keyW v,0):=by
   intro hb;apply L3_step;rw [ek]
   split
   ·rename_i h2;have hs:v.Str.toList.length<=200:=by
     rcases hc with h | h | h | h
     ·omega
     ·omega
     ·exact h.2.2
     ·omega
    have:=loop (φ:=fun r=>r=(keyW v,0)) h2 hs rfl v.Str.toList 0 rfl (by omega);rw [h2];simpa [esc] using this
   ·rename_i h2;refine ⟨fun x hx=>by simp at hx;omega,?_⟩;simp [keyW,keyJ,hb,h2]
  split
  ·rename_i h1;exact two _ (.inl h1)
  ·rename_i h1
   split
   ·rename_i h3;exact two _ (.inr h3)
   ·rename_i h3;exact three (by omega))
 rw [← h1];exact h2
end q75_
def b8 (x:Int):UInt8:=UInt8.ofNat x.toNat
theorem Bdy {x y:Int} (hx:0<=x/\x<256) (hy:0<=y/\y<256) (h:b8 x=b8 y):x=y:=by
 unfold b8 at h;have:=congrArg UInt8.toNat h;simp at this;omega
theorem Aq1:∀ {l m:List Int},(∀ x∈l,0<=x/\x<256)->(∀ x∈m,0<=x/\x<256)->l.map b8=m.map b8->l=m
 | [],[],_,_,_=>rfl
 | [],_::_,_,_,h=>by simp at h
 | _::_,[],_,_,h=>by simp at h
 | x::l,y::m,h1,h2,h=>by
  simp only [List.map_cons,List.cons.injEq] at h;rw [Bdy (h1 x (by simp)) (h2 y (by simp)) h.1,Aq1 (fun z hz=>h1 z (by simp [hz])) (fun z hz=>h2 z (by simp [hz])) h.2]
theorem As2 {v:api_Value}:(keyW v).data.toList=(keyJ v).map b8:=by
 unfold keyW Aks b8;simp
theorem Azl {v:api_Value}:(keyW v).size=(keyJ v).length:=by
 have:(keyW v).size=(keyW v).data.toList.length:=rfl;rw [this,As2,List.length_map]
def Aec (l:List api_Value):List Int:=l.flatMap keyJ
theorem Ans {l:List api_Value} (h:∀ v∈l,Aas v=true):∀ x∈Aec l,0<=x/\x<256:=by
 intro x hx;obtain ⟨v,hv,hx⟩:=List.mem_flatMap.1 hx;exact App (h v hv) x hx
theorem As3:∀ {l m:List api_Value},l.length=m.length->(∀ v∈l,Aas v=true/\Ahs v)->(∀ v∈m,Aas v=true/\Ahs v)->Aec l=Aec m->l=m
 | [],[],_,_,_,_=>rfl
 | [],_::_,h,_,_,_=>by simp at h
 | _::_,[],h,_,_,_=>by simp at h
 | v::l,w::m,hl,h1,h2,h=>by
  simp only [Aec,List.flatMap_cons] at h;have a:=h1 v (by simp);have b:=h2 w (by simp);obtain ⟨e1,e2⟩:=Bbe a.1 b.1 a.2 b.2 h;rw [e1,As3 (by simpa using hl) (fun z hz=>h1 z (by simp [hz])) (fun z hz=>h2 z (by simp [hz])) e2]
def Aed (l:List api_Value):ByteArray:=bstr ((Aec l).map b8)
theorem Azn {l m:List api_Value} (hl:l.length=m.length) (h1:∀ v∈l,Aas v=true/\Ahs v) (h2:∀ v∈m,Aas v=true/\Ahs v):Aed l=Aed m↔l=m:=by
 constructor
 ·intro h;have h3:(Aec l).map b8=(Aec m).map b8:=by
   have:=congrArg ByteArray.toList h;unfold Aed at this
   rwa [Aw9,Aw9] at this
  exact As3 hl h1 h2 (Aq1 (Ans fun v hv=>(h1 v hv).1) (Ans fun v hv=>(h2 v hv).1) h3)
 ·rintro rfl;rfl
def pick (l:List api_Value) (n:Nat):List api_Value:=(Aba n).filterMap fun i=>l[i]?
def Aox (a b:List api_Value) (n:Nat):Bool:=decide (pick a n=pick b n)
theorem Bc6 {a b:List api_Value} (hl:a.length=b.length):∀ {l:List Nat},(l.filterMap fun i=>a[i]?)=(l.filterMap fun i=>b[i]?)↔∀ i∈l,a[i]? = b[i]?
 | []=>by simp
 | k::l=>by
  have ih:=Bc6 (a:=a) (b:=b) hl (l:=l);by_cases h:k<a.length
  ·have e1:=List.getElem?_eq_getElem h;have e2:=List.getElem?_eq_getElem (l:=b) (i:=k) (by omega);simp only [List.filterMap_cons,e1,e2,List.cons.injEq,ih,List.forall_mem_cons,zJ]
  ·have e1:a[k]? = none:=List.getElem?_eq_none (by omega);have e2:b[k]? = none:=List.getElem?_eq_none (by omega);simp only [List.filterMap_cons,e1,e2,ih,List.forall_mem_cons,true_and]
theorem Are {a b:List api_Value} {n:Nat} (hn:n<2^32) (hl:a.length=b.length):Aox a b n=true↔∀ i,n.testBit i=true->a[i]? = b[i]?:=by
 unfold Aox pick;rw [decide_eq_true_iff,Bc6 hl];constructor
 ·exact fun h i hi=>h i ((Adw hn).2 hi)
 ·exact fun h i hi=>h i ((Adw hn).1 hi)
theorem Al7 {l:List api_Value} {n:Nat}:∀ v∈pick l n,v∈l:=by
 intro v hv;obtain ⟨i,_,hi⟩:=List.mem_filterMap.1 hv;exact List.mem_of_getElem? hi
structure TV (t:api_Table):Prop where
 name:Ah9 t.Name=true
 na:t.Attrs.length<=16
 nr:t.Rows.length<=1000
 names:Af8 t.Attrs=true
 rows:Ae1 t.Attrs.length 0 t.Rows=0
theorem Agm {t:api_Table}:Aiy t=0↔TV t:=by
 unfold Aiy;constructor
 ·intro h
  split at h
  ·split at h
   ·cases h
   ·split at h
    ·cases h
    ·split at h
     ·rename_i h1 h2 h3 h4;exact ⟨h1,by omega,by omega,h4,h⟩
     ·cases h
  ·cases h
 ·intro h;rw [if_pos h.name,if_neg (by have:=h.na;omega),if_neg (by have:=h.nr;omega),if_pos h.names];exact h.rows
theorem Amh {n:Nat}:∀ {l:List api_Row} {last:Int},Ae1 n last l=0->∀ r∈l,r.Values.length=n/\(∀ v∈r.Values,Aas v=true)/\last<r.ID
 | [],_,_,r,hr=>by cases hr
 | a::l,last,h,r,hr=>by
  simp only [Ae1] at h
  split at h
  ·cases h
  ·split at h
   ·split at h
    ·rename_i h1 h2 h3;unfold Ae9 at h3;rw [List.all_eq_true] at h3;rcases List.mem_cons.1 hr with rfl | hr
     ·exact ⟨h2,h3,by omega⟩
     ·obtain ⟨e1,e2,e3⟩:=Amh h r hr;exact ⟨e1,e2,by omega⟩
    ·cases h
   ·cases h
theorem TV.len {t:api_Table} (h:TV t) {r:api_Row} (hr:r∈t.Rows):r.Values.length=t.Attrs.length:=(Amh h.rows r hr).1
theorem TV.val {t:api_Table} (h:TV t) {r:api_Row} (hr:r∈t.Rows):∀ v∈r.Values,Aas v=true:=(Amh h.rows r hr).2.1
def TNum (t:api_Table):Prop:=∀ r∈t.Rows,∀ v∈r.Values,Ahs v
theorem Awb:∀ {a b:List UInt8},Lib.compareBytes a b=cmpL a b
 | [],[]=>rfl
 | [],_::_=>rfl
 | _::_,[]=>rfl
 | a::r,b::s=>by
  rw [Lib.compareBytes,cmpL,Awb (a:=r) (b:=s)];have lt:∀ {x y:UInt8},x<y↔u8i x<u8i y:=fun {x y}=>by
   unfold u8i;rw [UInt8.lt_iff_toNat_lt];omega
  by_cases h:a=b
  ·subst h;rw [if_neg (by rw [lt];omega),if_neg (by rw [lt];omega),if_pos rfl]
  ·rw [if_neg h];unfold cmpI;by_cases h1:a<b
   ·rw [if_pos h1,if_pos (lt.1 h1)]
   ·rw [if_neg h1,if_neg (fun hh=>h1 (lt.2 hh))];have h2:b<a:=by
     rw [lt] at h1 ⊢;have:u8i a≠u8i b:=fun hh=>h (Ane.1 hh);omega
    rw [if_pos h2,if_pos (lt.1 h2)]
theorem Bce {a b:ByteArray}:bcmp a b=cmpS a b:=by
 unfold bcmp cmpS;rw [Awb,Akq,Akq]
theorem Awm {x:Int}:q58_.C x false:=by
 obtain ⟨r,h1,h2⟩:=q58_.enter x (fun r=>r=false) (by simp);rw [← h1];exact h2
theorem Ase {x:Int}:q48_.C x false:=by
 obtain ⟨r,h1,h2⟩:=q48_.enter x (fun r=>r=false) (by simp);rw [← h1];exact h2
theorem Avh {x y:Int}:q47_.C x y (cmpI x y):=by
 obtain ⟨r,h1,h2⟩:=q47_.enter x y (fun r=>r=cmpI x y) ⟨_,Awm,_,Awm,by
  rw [if_neg Bool.false_ne_true,if_neg Bool.false_ne_true];unfold cmpI
  split
  ·rfl
  ·split<;>rfl⟩
 rw [← h1];exact h2
theorem Ast {x y:Int}:q38_.C x y (cmpI x y):=by
 obtain ⟨r,h1,h2⟩:=q38_.enter x y (fun r=>r=cmpI x y) ⟨_,Ase,_,Ase,by
  rw [if_neg Bool.false_ne_true,if_neg Bool.false_ne_true];unfold cmpI
  split
  ·rfl
  ·split<;>rfl⟩
 rw [← h1];exact h2
theorem q49_.spec {a b:ByteArray}:q49_.C a b (cmpS a b):=by
 obtain ⟨q,g1,g2⟩:=q18_.enter a b (fun r=>r=cmpS a b) Bce;obtain ⟨r,h1,h2⟩:=q49_.enter a b (fun r=>r=cmpS a b) ⟨_,g2,g1⟩;rw [← h1];exact h2
theorem Avi {a b c:Int}:q74_.C [a,b,c] (if a=0 then (if b=0 then c else b) else a):=by
 obtain ⟨r,h1,h2⟩:=q74_.enter [a,b,c] (fun r=>r=if a=0 then (if b=0 then c else b) else a) (by
  have e0:IntKind.wrap .i64 ((0:Int)+1)=1:=by decide
  have e1:IntKind.wrap .i64 ((1:Int)+1)=2:=by decide
  have e2:IntKind.wrap .i64 ((2:Int)+1)=3:=by decide
  apply q74_.L1_step;rw [if_pos (by simp)];refine ⟨a,rfl,?_⟩;by_cases ha:a=0
  ·rw [if_pos ha,if_pos ha,e0];apply q74_.L1_step;rw [if_pos (by simp)];refine ⟨b,rfl,?_⟩;by_cases hb:b=0
   ·rw [if_pos hb,if_pos hb,e1];apply q74_.L1_step;rw [if_pos (by simp)];refine ⟨c,rfl,?_⟩;by_cases hc:c=0
    ·rw [if_pos hc,e2];apply q74_.L1_step;rw [if_neg (by simp)];exact hc.symm
    ·rw [if_neg hc]
   ·rw [if_neg hb,if_neg hb]
  ·rw [if_neg ha,if_neg ha])
 rw [← h1];exact h2
theorem q59_.spec {a b:api_Value}:q59_.C a b (cmpV a b):=by
 obtain ⟨r,h1,h2⟩:=q59_.enter a b (fun r=>r=cmpV a b) ⟨_,Avh,_,Ast,_,q49_.spec,_,Avi,by
  unfold cmpV;rfl⟩
 rw [← h1];exact h2
def ofV (c:Nat):api_Value:=
 match c % 12 with
 | 0=>⟨1,0,⟨#[]⟩⟩
 | 1=>⟨1,1,⟨#[]⟩⟩
 | 2=>⟨1,2,⟨#[]⟩⟩
 | 3=>⟨0,0,⟨#[]⟩⟩
 | 4=>⟨2,0,⟨#[97]⟩⟩
 | 5=>⟨2,0,⟨#[98]⟩⟩
 | 6=>⟨2,0,⟨#[]⟩⟩
 | 7=>⟨3,1,⟨#[]⟩⟩
 | 8=>⟨1,-1,⟨#[]⟩⟩
 | 9=>⟨2,0,⟨#[97,98]⟩⟩
 | 10=>⟨3,2,⟨#[]⟩⟩
 | _=>⟨1,7,⟨#[]⟩⟩
theorem Azx (c:Nat):Aas (ofV c)=true/\Ahs (ofV c):=by
 have e1:((⟨#[97]⟩:ByteArray)).toList=[97]:=Akr (l:=[97]);have e2:((⟨#[98]⟩:ByteArray)).toList=[98]:=Akr (l:=[98]);have e3:((⟨#[97,98]⟩:ByteArray)).toList=[97,98]:=Akr (l:=[97,98]);unfold ofV Ahs Aas
 split<;>simp [Atl,e1,e2,e3]
namespace q60_
theorem spec (c:Nat):C c (ofV c):=by
 obtain ⟨r,h1,h2⟩:=enter c (fun r=>r=ofV c) (by
  have e:Int.tmod (c:Int) 12=((c % 12:Nat):Int):=rfl;rw [e];unfold ofV;have hc:c % 12<12:=Nat.mod_lt _ (by decide);generalize c % 12=m at hc
  match m,hc with
  | 0,_=>rfl
  | 1,_=>rfl
  | 2,_=>rfl
  | 3,_=>rfl
  | 4,_=>rfl
  | 5,_=>rfl
  | 6,_=>rfl
  | 7,_=>rfl
  | 8,_=>rfl
  | 9,_=>rfl
  | 10,_=>rfl
  | 11,_=>rfl)
 rw [← h1];exact h2
end q60_
def Ain:List ByteArray:=[⟨#[97]⟩,⟨#[98]⟩,⟨#[99]⟩,⟨#[100]⟩,⟨#[101]⟩,⟨#[102]⟩,⟨#[103]⟩,⟨#[104]⟩]
structure RecOK (x:drossref03_Recipe):Prop where
 at_:0<=x.Attrs/\x.Attrs<256
 gap:0<=x.Gap/\x.Gap<256
 code:∀ r∈x.Rows,∀ c∈r,0<=c/\c<256
def Alx (r:List Int) (k:Nat):Nat:=((r[k]?).getD 0).toNat
def Acy (r:List Int) (n:Nat):List api_Value:=(List.range n).map fun k=>ofV (Alx r k)
def Adc (x:drossref03_Recipe) (n:Nat):api_Table:=⟨⟨#[114]⟩,Ain.take n,x.Rows.zipIdx.map fun p=>⟨1+(p.2:Int)*(1+x.Gap % 3),Acy p.1 n⟩⟩
namespace q50_
theorem inner {x:drossref03_Recipe} {n:Nat} {φ:api_Table->Prop} {acc:List api_Row} {i:Nat} {id:Int} {r:List Int} (hn:n<=8) (hx:RecOK x) (hr:x.Rows[i]? = some r) (hi:i<10000) (hacc:acc.length<=10000)
  (h:L1 x n (acc++[⟨id,Acy r n⟩]) ((i+1:Nat):Int) φ):∀ k,k<=n->L2 x n acc i id (Acy r k) k φ:=by
 refine down ?_ ?_
 ·apply L2_step;rw [if_neg (by omega),Aa4 (by omega)];exact ⟨by omega,h⟩
 ·intro k hk h;apply L2_step;rw [if_pos (by omega)];have e:Acy r (k+1)=Acy r k++[ofV (Alx r k)]:=by simp [Acy,List.range_succ]
  rw [e] at h;have next:∀ c:Int,c=(Alx r k:Int)->L3 x n acc i id (Acy r k) k c φ:=by
   rintro _ rfl;apply L3_step;refine ⟨_,q60_.spec _,by simp [Acy];omega,?_⟩;rw [Aa4 (by omega)];exact h
  refine ⟨r,Aaq hr,?_⟩
  split
  ·rename_i hlt;have hlt:k<r.length:=by omega
   have hg:=List.getElem?_eq_getElem hlt;refine ⟨r[k],Aaq hg,next _ ?_⟩;have:=hx.code r (List.mem_of_getElem? hr) r[k] (List.getElem_mem hlt);unfold Alx;rw [hg];simp;omega
  ·rename_i hlt;refine next _ ?_;unfold Alx;rw [List.getElem?_eq_none (by omega)];rfl
theorem spec {x:drossref03_Recipe} {n:Nat} (hn:n<=8) (hx:RecOK x) (hr:x.Rows.length<=10000):C x n (Adc x n):=by
 obtain ⟨r,h1,h2⟩:=enter x n (fun r=>r=Adc x n) (by
  refine ⟨by omega,by simp;omega,by simp;omega,by simp;omega,?_⟩;have loop:∀ i,i<=x.Rows.length->L1 x n ((x.Rows.zipIdx.take i).map fun p=>(⟨1+(p.2:Int)*(1+x.Gap % 3),Acy p.1 n⟩:api_Row)) i fun r=>r=Adc x n:=by
   refine down ?_ ?_
   ·apply L1_step;rw [if_neg (by omega),List.take_of_length_le (l:=x.Rows.zipIdx) (by simp)];simp only [Int.toNat_natCast,Nat.sub_zero,List.drop_zero];rfl
   ·intro i hi h;apply L1_step;rw [if_pos (by omega)];have hg:=List.getElem?_eq_getElem hi;generalize x.Rows[i]=row at hg;have hg2:x.Rows.zipIdx[i]? = some (row,i):=by rw [List.getElem?_zipIdx,hg];simp
    rw [List.take_add_one,hg2] at h;have g:=hx.gap;have e0:Int.tmod x.Gap 3=x.Gap % 3:=by rw [Int.tmod_eq_emod_of_nonneg g.1]
    have hp:0<=(i:Int)*(1+x.Gap % 3)/\(i:Int)*(1+x.Gap % 3)<=30000:=by
     have h3:x.Gap % 3=0∨x.Gap % 3=1∨x.Gap % 3=2:=by omega
     rcases h3 with h | h | h<;>rw [h]<;>omega
    rw [e0,Abz (x:=x.Gap % 3) (by omega) (by omega),Abz (x:=1+x.Gap % 3) (by omega) (by omega),Abz (x:=(i:Int)*(1+x.Gap % 3)) (by omega) (by omega),Abz (x:=1+(i:Int)*(1+x.Gap % 3)) (by omega) (by omega)];refine inner (r:=row) hn hx hg (by omega) (by simp;omega) ?_ 0 (Nat.zero_le _);simpa using h
  have:=loop 0 (Nat.zero_le _)
  simpa using this)
 rw [← h1];exact h2
end q50_
def tabF (x:drossref03_Recipe) (most:Nat):api_Table×Bool:=if x.Rows.length<=most then (Adc x (x.Attrs % 6).toNat,true) else (⟨⟨#[]⟩,[],[]⟩,false)
theorem q40_.spec {x:drossref03_Recipe} {most:Nat} (hm:most<=10000) (hx:RecOK x):q40_.C x most (tabF x most):=by
 obtain ⟨r,h1,h2⟩:=q40_.enter x most (fun r=>r=tabF x most) (by
  unfold tabF
  split
  ·rw [if_neg (by omega)]
  ·rw [if_pos (by omega)];have:=hx.at_;have e:IntKind.wrap .i64 (Int.tmod x.Attrs 6)=(((x.Attrs % 6).toNat:Nat):Int):=by
    rw [Int.tmod_eq_emod_of_nonneg this.1,Abz (by omega) (by omega)];omega
   rw [e]
   exact ⟨_,q50_.spec (by omega) hx (by omega),rfl⟩)
 rw [← h1];exact h2
theorem Bc7 {b:UInt8} (h:letB (u8i b)=true):Ah9 ⟨#[b]⟩=true:=by
 have e:((⟨#[b]⟩:ByteArray)).toList=[b]:=Akr (l:=[b]);unfold Ah9;rw [e];simp [Acg,h,Aq4]
theorem Azw:∀ n,n<=8->Af8 (Ain.take n)=true:=by
 have hn:∀ b:UInt8,letB (u8i b)=true->Ah9 ⟨#[b]⟩=true:=fun b h=>Bc7 h;have hne:∀ a b:UInt8,a≠b->eqS ⟨#[a]⟩ ⟨#[b]⟩=false:=by
  intro a b h;unfold eqS;rw [decide_eq_false_iff_not];intro e;have:=congrArg (fun x:ByteArray=>x.data.toList) e;simp at this;exact h this.symm
 intro n hn8;have key:Af8 Ain=true:=by
  unfold Af8 Ain;simp only [Aez,List.nil_append,List.cons_append,List.any_nil,List.any_cons];rw [hn 97 (by decide),hn 98 (by decide),hn 99 (by decide),hn 100 (by decide),hn 101 (by decide),hn 102 (by decide),hn 103 (by decide),hn 104 (by decide)];simp [hne]
 have pre:∀ (l pre:List ByteArray) (m:Nat),Aez pre l=true->Aez pre (l.take m)=true:=by
  intro l
  induction l with
  | nil=>intro pre m h;simpa using h
  | cons a l ih=>
   intro pre m h;cases m with
   | zero=>rfl
   | succ m=>
    simp only [List.take_succ_cons,Aez,Bool.and_eq_true] at h ⊢;exact ⟨h.1,ih _ _ h.2⟩
 exact pre _ _ _ key
theorem Aqc {n:Nat} {g:Int} (hg:0<=g):∀ (l:List (List Int)) (i:Nat) (last:Int),last<1+(i:Int)*(1+g)->Ae1 n last ((l.zipIdx i).map fun p=>(⟨1+(p.2:Int)*(1+g),Acy p.1 n⟩:api_Row))=0
 | [],_,_,_=>rfl
 | r::l,i,last,h=>by
  simp only [List.zipIdx_cons,List.map_cons,Ae1];rw [if_neg (by omega),if_pos (by simp [Acy]),if_pos]
  ·refine Aqc hg l (i+1) _ ?_;have:((i+1:Nat):Int)*(1+g)=(i:Int)*(1+g)+(1+g):=by rw [Int.natCast_add,Int.add_mul];simp
   omega
  ·unfold Ae9 Acy;rw [List.all_eq_true];intro v hv;obtain ⟨k,_,rfl⟩:=List.mem_map.1 hv;exact (Azx _).1
theorem Ayf {x:drossref03_Recipe} {n:Nat} (hn:n<=8) (hx:RecOK x) (hr:x.Rows.length<=1000):TV (Adc x n):=by
 have hl:(Ain.take n).length=n:=by simp [Ain];omega
 refine ⟨Bc7 (by decide),by simp only [Adc,hl];omega,by simp [Adc];omega,Azw n hn,?_⟩;simp only [Adc,hl];have g:=hx.gap;exact Aqc (by omega) x.Rows 0 0 (by omega)
theorem Bc4 {x:drossref03_Recipe} {n:Nat}:TNum (Adc x n):=by
 intro r hr v hv;simp only [Adc] at hr;obtain ⟨p,_,rfl⟩:=List.mem_map.1 hr;simp only [Acy] at hv;obtain ⟨k,_,rfl⟩:=List.mem_map.1 hv;exact (Azx _).2
theorem Aye {x:drossref03_Recipe} {n:Nat} (hn:n<=8):(Adc x n).Attrs.length=n:=by simp [Adc,Ain];omega
abbrev nI (l:List Nat):List Int:=l.map fun (j:Nat)=>(j:Int)
theorem Aka {X:List Nat} {k j:Nat} (h:X[k]? = some j):(nI X)[k]? = some (j:Int):=by rw [List.getElem?_map,h];rfl
def vAt (r:api_Row) (i:Nat):api_Value:=(r.Values[i]?).getD ⟨0,0,⟨#[]⟩⟩
theorem Ai8 {r:api_Row} {i:Nat} (h:i<r.Values.length):r.Values[i]? = some (vAt r i):=by
 unfold vAt;rw [List.getElem?_eq_getElem h];rfl
def cmpA (r s:api_Row) (i:Nat):Int:=cmpV (vAt r i) (vAt s i)
theorem Aku {a b:Int} : -1<=cmpI a b/\cmpI a b<=1:=by
 unfold cmpI
 split
 ·omega
 ·split<;>omega
theorem Ap4:∀ {a b:List UInt8},-1<=cmpL a b/\cmpL a b<=1
 | [],[]=>by simp [cmpL]
 | [],_::_=>by simp [cmpL]
 | _::_,[]=>by simp [cmpL]
 | x::a,y::b=>by
  rw [cmpL]
  split
  ·exact Ap4
  ·exact Aku
theorem Ap5 {v w:api_Value} : -1<=cmpV v w/\cmpV v w<=1:=by
 unfold cmpV
 split
 ·split
  ·exact Ap4
  ·exact Aku
 ·exact Aku
theorem Am7 {r s:api_Row}:∀ {l:List Nat},-1<=lexO cmpA r s l/\lexO cmpA r s l<=1
 | []=>by simp [lexO]
 | a::l=>by
  rw [lexO]
  split
  ·exact Am7
  ·exact Ap5
theorem Asd {x y:Int} (hx : -1<=x/\x<=1) (hy : -1<=y/\y<=1):IntKind.wrap .i64 (x*y)=x*y:=by
 have:x = -1∨x=0∨x=1:=by omega
 refine Abz ?_ ?_<;>rcases this with rfl | rfl | rfl<;>omega
theorem q41_.spec {a b:api_Row} {X:List Nat} (ha:∀ i∈X,i<a.Values.length) (hb:∀ i∈X,i<b.Values.length) (hX:X.length<1000):q41_.C a b (nI X) (lexO cmpA a b X):=by
 obtain ⟨r,h1,h2⟩:=q41_.enter a b (nI X) (fun r=>r=lexO cmpA a b X) (by
  have:∀ (r:List Nat) (k:Nat),X.drop k=r->lexO cmpA a b r=lexO cmpA a b X->q41_.L1 a b (nI X) k (fun r=>r=lexO cmpA a b X):=by
   intro r
   induction r with
   | nil=>
    intro k hd he;apply q41_.L1_step;have:=Ab3 hd;rw [if_neg (by simp;omega)];exact he
   | cons i r ih=>
    intro k hd he;have hlt:=Ab4 hd;have hk:=Aap hd;have him:=List.mem_of_getElem? hk;apply q41_.L1_step;rw [if_pos (by simp;omega)];refine ⟨i,Aaq (Aka hk),_,Aaq (Ai8 (ha i him)),_,Aaq (Ai8 (hb i him)),_,q59_.spec,?_⟩;rw [lexO] at he;by_cases h0:cmpA a b i=0
    ·rw [if_pos h0] at he;rw [if_pos (show cmpV (vAt a i) (vAt b i)=0 from h0),Aa4 (by omega)];exact ih _ (Aah hd) he
    ·rw [if_neg h0] at he;rw [if_neg (show ¬ cmpV (vAt a i) (vAt b i)=0 from h0)];exact he
  exact this X 0 rfl rfl)
 rw [← h1];exact h2
def Adi (a b:api_Row) (X Y:List Nat):Prop:=(lexO cmpA a b X=0->lexO cmpA a b Y=0)/\¬ lexO cmpA a b X*lexO cmpA a b Y<0
theorem q61_.spec {a b:api_Row} {X Y:List Nat} (ha:∀ i∈X++Y,i<a.Values.length) (hb:∀ i∈X++Y,i<b.Values.length) (hX:X.length<1000) (hY:Y.length<1000):∃ k,q61_.C a b ⟨nI X,nI Y⟩ k/\(k=0↔Adi a b X Y):=by
 obtain ⟨r,h1,h2⟩:=q61_.enter a b ⟨nI X,nI Y⟩ (fun k=>k=0↔Adi a b X Y) (by
  refine ⟨_,q41_.spec (fun i hi=>ha i (by simp [hi])) (fun i hi=>hb i (by simp [hi])) hX,_,q41_.spec (fun i hi=>ha i (by simp [hi])) (fun i hi=>hb i (by simp [hi])) hY,?_⟩;have last:(lexO cmpA a b X=0->lexO cmpA a b Y=0)->q61_.L1 (lexO cmpA a b X) (lexO cmpA a b Y) fun k=>k=0↔Adi a b X Y:=fun h=>by
   apply q61_.L1_step;rw [Asd Am7 Am7];unfold Adi
   split
   ·rename_i hl;simp [hl]
   ·rename_i hl;simp only [true_iff];exact ⟨h,hl⟩
  split
  ·rename_i hx
   split
   ·rename_i hy;exact last fun _=>hy
   ·rename_i hy;unfold Adi;simp only [show ¬ ((1:Int)=0) by decide,false_iff];exact fun h=>hy (h.1 hx)
  ·rename_i hx
   exact last fun h=>absurd h hx)
 exact ⟨r,h2,h1⟩
theorem q11_.ok {X:List Nat} {n:Nat} (h:∀ i∈X,i<n) (hX:X.length<1000):q11_.C (nI X) n (-1):=by
 obtain ⟨r,h1,h2⟩:=q11_.enter (nI X) n (fun r=>r = -1) (by
  have:∀ k,k<=X.length->q11_.L1 (nI X) n k (fun r=>r = -1):=by
   refine down ?_ ?_
   ·apply q11_.L1_step;rw [if_neg (by simp)]
   ·intro k hk h';have hk':=List.getElem?_eq_getElem hk;have hin:=h _ (List.mem_of_getElem? hk');apply q11_.L1_step;rw [if_pos (by simp;omega)];obtain ⟨q,q1,q2⟩:=q51_.enter ((X[k]:Nat):Int) n (fun q=>q=false) (by
     rw [if_neg (by omega)]
     simp;omega)
    subst q1;refine ⟨_,Aaq (Aka hk'),_,q2,?_⟩;rw [if_neg (by decide),Aa4 (by omega)];exact h'
  exact this 0 (Nat.zero_le _))
 rw [← h1];exact h2
theorem q62_.ok {X:List Nat} {n:Nat} (h:∀ i∈X,i<n) (hX:X.length<=8):q62_.C n (nI X) true:=by
 obtain ⟨q,q1,q2⟩:=q8_.enter (nI X) n (fun q=>q=false) ⟨_,q11_.ok h (by omega),by simp⟩;subst q1;obtain ⟨r,h1,h2⟩:=q62_.enter n (nI X) (fun r=>r=true) (by
  rw [if_pos (by simp;omega)]
  exact ⟨_,q2,rfl⟩)
 rw [← h1];exact h2
theorem q55_.ok {X Y:List Nat} {n:Nat} (hx:∀ i∈X,i<n) (hX:X.length<=8) (hy:∀ i∈Y,i<n) (hY:Y.length<=8):q55_.C n ⟨nI X,nI Y⟩ true:=by
 obtain ⟨r,h1,h2⟩:=q55_.enter n ⟨nI X,nI Y⟩ (fun r=>r=true) ⟨_,q62_.ok hx hX,by rw [if_pos rfl];exact ⟨_,q62_.ok hy hY,rfl⟩⟩;rw [← h1];exact h2
theorem Aul {X:List Nat} {a:Nat}:(a:Int)∈nI X↔a∈X:=by
 rw [List.mem_map];constructor
 ·rintro ⟨b,hb,e⟩;rw [show a=b by omega];exact hb
 ·exact fun h=>⟨a,h,rfl⟩
theorem q22_.spec {l:List Int} {a:Int} (hl:l.length<1000):q22_.C l a (decide (a∈l)):=by
 have hi:q24_.C l a (ixI (fun b=>decide (a=b)) l):=by
  obtain ⟨r,h1,h2⟩:=q24_.enter l a (fun r=>r=ixI (fun b=>decide (a=b)) l) (by
   refine Ahv (l:=l) (p:=fun b=>decide (a=b)) (L:=fun i=>q24_.L1 l a i _) (φ:=fun r=>r=ixI (fun b=>decide (a=b)) l) ?_ ?_ rfl
   ·intro h;apply q24_.L1_step;rw [if_neg (by omega)];exact h
   ·intro k b hb hk h;apply q24_.L1_step;rw [if_pos (by omega)];refine ⟨b,Aaq hb,?_⟩;rw [Aa4 (by omega)]
    split
    ·rename_i hh;rw [if_pos (by simpa using hh)] at h;exact h
    ·rename_i hh;rw [if_neg (by simpa using hh)] at h;exact h)
  rw [← h1];exact h2
 obtain ⟨r,h1,h2⟩:=q22_.enter l a (fun r=>r=decide (a∈l)) ⟨_,hi,by
  rw [An0,Bool.eq_iff_iff,List.any_eq_true,decide_eq_true_eq];constructor
  ·rintro ⟨b,hb,e⟩;rw [of_decide_eq_true e];exact hb
  ·exact fun h=>⟨a,h,by simp⟩⟩
 rw [← h1];exact h2
theorem Aok:∀ {l out:List Nat},(Aar out l).length<=out.length+l.length
 | [],out=>by simp [Aar]
 | a::l,out=>by
  rw [Aar];have:=Aok (l:=l) (out:=if a∈out then out else out++[a]);refine Nat.le_trans this ?_
  split<;>simp<;>omega
theorem q63_.spec {X:List Nat} (hX:X.length<=100):q63_.C (nI X) (nI (Aar [] X)):=by
 obtain ⟨r,h1,h2⟩:=q63_.enter (nI X) (fun r=>r=nI (Aar [] X)) (by
  have:∀ (r:List Nat) (k:Nat) (out:List Nat),X.drop k=r->out.length<=k->Aar out r=Aar [] X->q63_.L1 (nI X) (nI out) k (fun r=>r=nI (Aar [] X)):=by
   intro r
   induction r with
   | nil=>
    intro k out hd ho he;apply q63_.L1_step;have:=Ab3 hd;rw [if_neg (by simp;omega)];rw [← he];rfl
   | cons a r ih=>
    intro k out hd ho he;have hlt:=Ab4 hd;apply q63_.L1_step;rw [if_pos (by simp;omega)];refine ⟨a,Aaq (Aka (Aap hd)),_,q22_.spec (by simp;omega),?_⟩;rw [Aar] at he;have next:∀ out',out'=(if a∈out then out else out++[a])->q63_.L2 (nI X) (nI out') k fun r=>r=nI (Aar [] X):=by
     rintro _ rfl;apply q63_.L2_step;rw [Aa4 (by omega)];refine ih _ _ (Aah hd) ?_ he
     split
     ·omega
     ·simp;omega
    by_cases hin:a∈out
    ·rw [if_pos (decide_eq_true (Aul.2 hin))];exact next _ (by rw [if_pos hin])
    ·rw [if_neg (by rw [decide_eq_true_eq,Aul];exact hin)];refine ⟨by simp;omega,?_⟩;have:=next (out++[a]) (by rw [if_neg hin]);simpa [nI] using this
  exact this X 0 [] rfl (by simp) rfl)
 rw [← h1];exact h2
def setN (l:List Nat):Nat:=l.foldl (fun s a=>s ||| 2^a) 0
theorem Auu {i:Nat}:∀ {l:List Nat} {s:Nat},(l.foldl (fun s a=>s ||| 2^a) s).testBit i=(s.testBit i || decide (i∈l))
 | [],s=>by simp
 | a::l,s=>by
  rw [List.foldl_cons,Auu,Nat.testBit_or,Nat.testBit_two_pow,Bool.or_assoc];congr 1;rw [Bool.eq_iff_iff];simp only [Bool.or_eq_true,decide_eq_true_eq,List.mem_cons];constructor
  ·rintro (h | h)
   ·exact .inl h.symm
   ·exact .inr h
  ·rintro (h | h)
   ·exact .inl h.symm
   ·exact .inr h
theorem Ad3 {l:List Nat} {i:Nat}:(setN l).testBit i=decide (i∈l):=by
 unfold setN;rw [Auu];simp
theorem Ad6 {l:List Nat} {n:Nat} (h:∀ i∈l,i<n):setN l<2^n:=by
 refine Nat.lt_of_not_le fun hle=>?_;obtain ⟨i,hi,hb⟩:=Nat.exists_ge_and_testBit_of_ge_two_pow hle;rw [Ad3,decide_eq_true_eq] at hb;have:=h i hb;omega
theorem q69_.spec {X:List Nat} (h:∀ i∈X,i<16) (hX:X.length<1000):q69_.C (nI X) (setN X):=by
 obtain ⟨r,h1,h2⟩:=q69_.enter (nI X) (fun r=>r=(setN X:Nat)) (by
  have:∀ (r:List Nat) (k s:Nat),X.drop k=r->s<2^16->r.foldl (fun s a=>s ||| 2^a) s=setN X->q69_.L1 (nI X) s k (fun r=>r=(setN X:Nat)):=by
   intro r
   induction r with
   | nil=>
    intro k s hd hs he;apply q69_.L1_step;have:=Ab3 hd;rw [if_neg (by simp;omega)];rw [← he];rfl
   | cons a r ih=>
    intro k s hd hs he;have hlt:=Ab4 hd;have ha:=h a (List.mem_of_getElem? (Aap hd));apply q69_.L1_step;rw [if_pos (by simp;omega)];have hp:2^a<2^16:=Nat.pow_lt_pow_right (by decide) ha;refine ⟨a,Aaq (Aka (Aap hd)),by omega,?_⟩;rw [Auv (k:=.u32) (by simp only [top];omega),Amw (k:=.u32) (by simp only [top];omega) (by simp only [top];omega),Aa4 (by omega)];exact ih _ _ (Aah hd) (Nat.or_lt_two_pow hs hp) he
  exact this X 0 0 rfl (by decide) rfl)
 rw [← h1];exact h2
def memN (n:Nat) (l:List Int):List Nat:=if n=0 then [] else (l.take 5).map fun x=>(x % (n:Int)).toNat
theorem Auk {n:Nat} {l:List Int}:(memN n l).length<=5:=by
 unfold memN;split
 ·simp
 ·simp;omega
theorem Awl {n:Nat} {l:List Int}:∀ i∈memN n l,i<n:=by
 intro i hi;unfold memN at hi
 split at hi
 ·cases hi
 ·rename_i hn;obtain ⟨x,_,rfl⟩:=List.mem_map.1 hi;have:=Int.emod_lt_of_pos x (b:=(n:Int)) (by omega);have:=Int.emod_nonneg x (b:=(n:Int)) (by omega);omega
theorem q32_.spec {n:Nat} {l:List Int} (hl:∀ x∈l,0<=x/\x<256) (hn:n<1000):q32_.C n l (nI (memN n l)):=by
 obtain ⟨r,h1,h2⟩:=q32_.enter n l (fun r=>r=nI (memN n l)) (by
  by_cases h0:n=0
  ·subst h0;apply q32_.L1_step;have e:nI (memN 0 l)=[]:=by simp [memN]
   rw [e]
   split
   ·split
    ·rw [if_neg (by omega)]
    ·rfl
   ·rfl
  have e:nI (memN n l)=(l.take 5).map fun x=>x % (n:Int):=by
   unfold memN nI;rw [if_neg h0,List.map_map];refine List.map_congr_left fun x _=>?_;have:=Int.emod_nonneg x (b:=(n:Int)) (by omega);simp only [Function.comp];omega
  rw [e];have:∀ (d k:Nat),d+k=min l.length 5->q32_.L1 n l ((l.take k).map fun x=>x % (n:Int)) k (fun r=>r=(l.take 5).map fun x=>x % (n:Int)):=by
   intro d
   induction d with
   | zero=>
    intro k hk;apply q32_.L1_step;have hfin:((l.take k).map fun x=>x % (n:Int))=(l.take 5).map fun x=>x % (n:Int):=by
     congr 1;rcases Nat.le_total l.length 5 with h | h
     ·rw [List.take_of_length_le (by omega),List.take_of_length_le h]
     ·congr 1;omega
    split
    ·split
     ·omega
     ·exact hfin
    ·exact hfin
   | succ d ih=>
    intro k hk;have hlt:k<l.length:=by omega
    have hg:=List.getElem?_eq_getElem hlt;have hb:=hl _ (List.mem_of_getElem? hg);apply q32_.L1_step;rw [if_pos (by omega),if_pos (by omega),if_pos (by omega)];refine ⟨_,Aaq hg,by omega,by simp;omega,?_⟩;rw [Aa4 (by omega),Abz (by omega) (by omega),Int.tmod_eq_emod_of_nonneg hb.1];have:=ih (k+1) (by omega);rw [List.take_add_one,hg,List.map_append] at this;exact this
  have:=this (min l.length 5) 0 (by omega)
  simpa using this)
 rw [← h1];exact h2
theorem q64_.spec {n:Nat} {x:drossref17_Lists} (hX:∀ c∈x.X,0<=c/\c<256) (hY:∀ c∈x.Y,0<=c/\c<256) (hn:n<1000):q64_.C n x ⟨nI (memN n x.X),nI (memN n x.Y)⟩:=by
 obtain ⟨r,h1,h2⟩:=q64_.enter n x (fun r=>r=⟨nI (memN n x.X),nI (memN n x.Y)⟩) ⟨_,q32_.spec hX hn,_,q32_.spec hY hn,rfl⟩;rw [← h1];exact h2
def Pr {ρ:Type} (rows:List ρ) (a b:ρ):Prop:=∃ i k:Nat,i<k/\rows[i]? = some a/\rows[k]? = some b
theorem Aq8 {ρ:Type} {rows:List ρ} {bad:ρ->ρ->Prop} {L1:Nat->Prop} {L2:ρ->Nat->List ρ->Nat->Prop}
  (stop1:(∀ a b,Pr rows a b->¬ bad a b)->L1 rows.length)
  (step1:∀ i a,rows[i]? = some a->i<rows.length->L2 a i (rows.drop (i+1)) 0->L1 i)
  (stop2:∀ a i l,i<rows.length->L1 (i+1)->L2 a i l l.length)
  (step2:∀ a i l j b,i<rows.length->l.length<=rows.length->l[j]? = some b->j<l.length->Pr rows a b->(¬ bad a b->L2 a i l (j+1))->L2 a i l j):L1 0:=by
 have outer:∀ (r:List ρ) (k:Nat),rows.drop k=r->(∀ i q a b,i<k->i<q->rows[i]? = some a->rows[q]? = some b->¬ bad a b)->L1 k∨rows.length<k:=by
  intro r
  induction r with
  | nil=>
   intro k hd hg;have:=Ab3 hd;rcases Nat.lt_or_ge rows.length k with h | h
   ·exact .inr h
   ·have:k=rows.length:=by omega
    subst this;refine .inl (stop1 ?_);rintro a b ⟨i,q,h1,h2,h3⟩;exact hg i q a b (List.getElem?_eq_some_iff.1 h2).1 h1 h2 h3
  | cons a r ih=>
   intro k hd hg;have hlt:=Ab4 hd;have hk:=Aap hd;refine .inl (step1 k a hk hlt ?_);have inner:∀ (s:List ρ) (j:Nat),(rows.drop (k+1)).drop j=s->j<=(rows.drop (k+1)).length->(∀ q b,q<j->(rows.drop (k+1))[q]? = some b->¬ bad a b)->L2 a k (rows.drop (k+1)) j:=by
    intro s
    induction s with
    | nil=>
     intro j hd2 hj hg2;have:=Ab3 hd2;have:j=(rows.drop (k+1)).length:=by omega
     rw [this];refine stop2 a k _ hlt ?_;rcases ih (k+1) (Aah hd) (fun i q a' b' h1 h2 h3 h4=>by
      rcases Nat.lt_or_ge i k with h | h
      ·exact hg i q a' b' h h2 h3 h4
      ·have:i=k:=by omega
       subst this;rw [hk] at h3;cases h3;refine hg2 (q-(i+1)) b' ?_ ?_
       ·have h5:=(List.getElem?_eq_some_iff.1 h4).1;have h6:(rows.drop (i+1)).length=rows.length-(i+1):=List.length_drop;omega
       ·rw [List.getElem?_drop]
        rw [show i+1+(q-(i+1))=q by omega];exact h4) with h | h
     ·exact h
     ·omega
    | cons b s ih2=>
     intro j hd2 hj hg2;have hlt2:=Ab4 hd2;have hb:=Aap hd2;refine step2 a k _ j b hlt (by rw [List.length_drop];omega) hb hlt2 ⟨k,k+1+j,by omega,hk,by rw [List.getElem?_drop] at hb;exact hb⟩ fun hn=>?_;refine ih2 (j+1) (Aah hd2) hlt2 fun q b' hq hb'=>?_;rcases Nat.lt_or_ge q j with h | h
     ·exact hg2 q b' h hb'
     ·have:q=j:=by omega
      subst this;rw [hb] at hb';cases hb';exact hn
   exact inner _ 0 rfl (Nat.zero_le _) (fun q b hq=>by omega)
 rcases outer rows 0 rfl (fun i q a b h=>by omega) with h | h
 ·exact h
 ·omega
section
variable {t:api_Table} {X Y:List Nat} (hT:TV t) (hx:∀ i∈X,i<t.Attrs.length) (hX:X.length<=8) (hy:∀ i∈Y,i<t.Attrs.length) (hY:Y.length<=8)
include hT hx hX hy hY
theorem q15_.ok:q15_.C t (nI X) (nI Y) 0:=by
 obtain ⟨q,q1,q2⟩:=q42_.enter (t.Attrs.length:Int) (nI X) (nI Y) (fun q=>q=true) ⟨_,q55_.ok hx hX hy hY,rfl⟩;subst q1;obtain ⟨r,h1,h2⟩:=q15_.enter t (nI X) (nI Y) (fun r=>r=0) ⟨_,q73_.spec,by
  rw [if_pos (Agm.2 hT)]
  exact ⟨_,q2,by rw [if_pos rfl]⟩⟩
 subst h1;exact h2
theorem q13_.ok:q13_.C t (nI X) (nI Y) 0:=by
 obtain ⟨q,q1,q2⟩:=q26_.enter (t.Attrs.length:Int) (nI X) (nI Y) (fun q=>q=true) ⟨_,q55_.ok hx hX hy hY,rfl⟩;subst q1;obtain ⟨r,h1,h2⟩:=q13_.enter t (nI X) (nI Y) (fun r=>r=0) ⟨_,q73_.spec,by
  rw [if_pos (Agm.2 hT)]
  exact ⟨_,q2,by rw [if_pos rfl]⟩⟩
 subst h1;exact h2
omit hX hY in
theorem Ayx {a:api_Row} (ha:a∈t.Rows):∀ i∈X++Y,i<a.Values.length:=fun i hi=>by
 rw [hT.len ha];rcases List.mem_append.1 hi with h | h
 ·exact hx i h
 ·exact hy i h
theorem q33_.spec:∃ r,q33_.C t ⟨nI X,nI Y⟩ r/\(r.2.2.2=false↔∀ a b,Pr t.Rows a b->Adi a b X Y):=by
 have hn:=hT.nr;obtain ⟨r,h1,h2⟩:=q33_.enter t ⟨nI X,nI Y⟩ (fun r=>r.2.2.2=false↔∀ a b,Pr t.Rows a b->Adi a b X Y) ⟨_,q13_.ok hT hx hX hy hY,by
  rw [if_pos rfl];refine Aq8 (rows:=t.Rows) (bad:=fun a b=>¬ Adi a b X Y) (L1:=fun i=>q33_.L1 t ⟨nI X,nI Y⟩ i fun r=>r.2.2.2=false↔∀ a b,Pr t.Rows a b->Adi a b X Y)
   (L2:=fun a i l j=>q33_.L2 t ⟨nI X,nI Y⟩ a i l l.length j fun r=>r.2.2.2=false↔∀ a b,Pr t.Rows a b->Adi a b X Y) ?_ ?_ ?_ ?_
  ·intro h;apply q33_.L1_step;rw [if_neg (by omega)];simp only [true_iff];exact fun a b hp=>Classical.not_not.1 (h a b hp)
  ·intro i a ha hi h;apply q33_.L1_step;rw [if_pos (by omega),Aa4 (by omega)];refine ⟨a,Aaq ha,by omega,by omega,?_⟩;rw [Int.toNat_natCast,List.take_of_length_le (by simp)];exact h
  ·intro a i l hi h;apply q33_.L2_step;rw [if_neg (by omega),Aa4 (by omega)];exact h
  ·intro a i l j b hi hl hb hj hp h;apply q33_.L2_step;rw [if_pos (by omega)];obtain ⟨i',k',_,pa,pb⟩:=hp;obtain ⟨k,k1,k2⟩:=q61_.spec (a:=a) (b:=b) (X:=X) (Y:=Y) (Ayx hT hx hy (List.mem_of_getElem? pa)) (Ayx hT hx hy (List.mem_of_getElem? pb)) (by omega) (by omega);refine ⟨b,Aaq hb,k,k1,?_⟩
   split
   ·rename_i hk;rw [Aa4 (by omega)];exact h fun hn=>hn (k2.1 hk)
   ·rename_i hk;simp only [Bool.true_eq_false,false_iff]
    exact fun hall=>hk (k2.2 (hall a b ⟨i',k',by assumption,pa,pb⟩))⟩
 exact ⟨r,h2,h1⟩
theorem q56_.spec:∃ r,q56_.C t ⟨nI X,nI Y⟩ r/\r.2=0/\(r.1=true↔∀ a b,Pr t.Rows a b->Adi a b X Y):=by
 obtain ⟨q,q1,q2⟩:=q33_.spec hT hx hX hy hY;obtain ⟨r,h1,h2⟩:=q56_.enter t ⟨nI X,nI Y⟩ (fun r=>r.2=0/\(r.1=true↔∀ a b,Pr t.Rows a b->Adi a b X Y)) ⟨_,q15_.ok hT hx hX hy hY,by
  rw [if_pos rfl];refine ⟨q,q1,rfl,?_⟩
  rw [← q2];simp⟩
 exact ⟨r,h2,h1⟩
end
theorem q70_.spec {x y:Int}:q70_.C x y (decide (x<y)):=by
 obtain ⟨f1,g1,k1⟩:=q58_.enter x (fun r=>r=false) (by simp);obtain ⟨f2,g2,k2⟩:=q58_.enter y (fun r=>r=false) (by simp);subst g1 g2;obtain ⟨r,h1,h2⟩:=q70_.enter x y (fun r=>r=decide (x<y)) (by
  first
   | exact ⟨_,k1,by rw [if_neg (by decide)];simp⟩
   | (refine ⟨_,k1,?_⟩;simp)
   | (refine ⟨_,k1,_,k2,?_⟩;simp)
   | simp)
 rw [← h1];exact h2
theorem Bcv {l0:List Int} {n:Nat} {Q:List Int->Prop} (hn:n<=1000) (hl0:l0.length=n) (hQ:∀ l:List Int,l.Perm l0->Q l):q16_.L1 0 n 1 l0 Q:=by
 have inner:∀ (i j:Nat) (l:List Int),i<n->j<=i->l.Perm l0->(∀ l:List Int,l.Perm l0->q16_.L1 0 n ((i+1:Nat):Int) l Q)->q16_.L2 0 n i j l Q:=by
  intro i j
  induction j with
  | zero=>
   intro l hi hj hp hk;apply q16_.L2_step;rw [if_neg (by omega)];apply q16_.L3_step;rw [Aa4 (by omega)];exact hk l hp
  | succ j ih=>
   intro l hi hj hp hk;have hlen:=hp.length_eq;have h1:j+1<l.length:=by omega
   have h0:j<l.length:=by omega
   have e:IntKind.wrap .i64 (((j+1:Nat):Int)-1)=(j:Int):=by rw [Abz (by omega) (by omega)];omega
   apply q16_.L2_step;rw [if_pos (by omega),e];refine ⟨_,Aaq (List.getElem?_eq_getElem h1),_,Aaq (List.getElem?_eq_getElem h0),_,q70_.spec,?_⟩
   split
   ·have e1:lset l ((j+1:Nat):Int) l[j]=l.set (j+1) l[j]:=by simp [lset]
    have e2:∀ (m:List Int) (x:Int),lset m (j:Int) x=m.set j x:=fun m x=>by simp [lset]
    rw [e1,e2];refine ⟨_,Aaq (List.getElem?_eq_getElem (by simpa using h0)),?_⟩;refine ih _ hi (by omega) ?_ hk;exact (List.set_set_perm h1 h0).trans hp
   ·apply q16_.L3_step;rw [Aa4 (by omega)];exact hk l hp
 have outer:∀ (d i:Nat) (l:List Int),d+i=n∨n<i/\d=0->l.Perm l0->q16_.L1 0 n i l Q:=by
  intro d
  induction d with
  | zero=>
   intro i l hd hp;apply q16_.L1_step;rw [if_neg (by omega)];exact hQ l hp
  | succ d ih=>
   intro i l hd hp;apply q16_.L1_step;rw [if_pos (by omega)];exact inner i i l (by omega) (Nat.le_refl _) hp fun l' hp'=>ih (i+1) l' (by omega) hp'
 have:=outer (n-1) 1 l0 (by omega) (List.Perm.refl _);exact this
theorem q10_.spec {l:List Int} (hl:l.length<=12):∃ r,q10_.C l r/\r.Perm l:=by
 obtain ⟨r1,g1,k1⟩:=q16_.enter 0 (l.length:Int) l (fun r=>r.Perm l) (by
  have:IntKind.wrap .i64 ((0:Int)+1)=1:=by decide
  rw [this]
  exact Bcv (by omega) rfl fun _ h=>h)
 obtain ⟨s,c,_,_⟩:=q65_.spec (x:=l.length) (by omega);obtain ⟨r2,g2,k2⟩:=q20_.enter 0 (l.length:Int) s l (fun r=>r.Perm l) (by
  apply q20_.L1_step;rw [Abz (by omega) (by omega),if_pos (by omega)]
  exact ⟨r1,k1,g1⟩)
 obtain ⟨r3,g3,k3⟩:=q28_.enter l (fun r=>r.Perm l) (by
  have e:IntKind.wrap .u64 (l.length:Int)=(l.length:Int):=by
   rw [show (IntKind.wrap .u64 (l.length:Int))=(l.length:Int) % 18446744073709551616 from by simp [IntKind.wrap,IntKind.bits,IntKind.signed]];omega
  rw [e]
  exact ⟨_,c,r2,k2,g2⟩)
 obtain ⟨r4,g4,k4⟩:=q10_.enter l (fun r=>r.Perm l) ⟨by omega,r3,k3,g3⟩;exact ⟨r4,k4,g4⟩
def Abo (c:api_Canonical):Prop:=c.A=c.B∨(sN c.Context).testBit c.A.toNat=true∨(0<=c.B/\(sN c.Context).testBit c.B.toNat=true)
theorem Bbt {l:List api_Canonical} {c:api_Canonical} (hl:l.length<1000):q9_.C l c (decide (c∈l)):=by
 have heq:∀ d:api_Canonical,(and (c.Context == d.Context) (and (c.A == d.A) (and (c.B == d.B) true)))=decide (c=d):=fun d=>by
  obtain ⟨s1,a1,b1⟩:=c;obtain ⟨s2,a2,b2⟩:=d;rw [Bool.eq_iff_iff];simp
 have hi:q12_.C l c (ixI (fun b=>decide (c=b)) l):=by
  obtain ⟨r,h1,h2⟩:=q12_.enter l c (fun r=>r=ixI (fun b=>decide (c=b)) l) (by
   refine Ahv (l:=l) (p:=fun b=>decide (c=b)) (L:=fun i=>q12_.L1 l c i _) (φ:=fun r=>r=ixI (fun b=>decide (c=b)) l) ?_ ?_ rfl
   ·intro h;apply q12_.L1_step;rw [if_neg (by omega)];exact h
   ·intro k b hb hk h;apply q12_.L1_step;rw [if_pos (by omega)];refine ⟨b,Aaq hb,?_⟩;rw [Aa4 (by omega),heq]
    exact h)
  rw [← h1];exact h2
 obtain ⟨r,h1,h2⟩:=q9_.enter l c (fun r=>r=decide (c∈l)) ⟨_,hi,by
  rw [An0,Bool.eq_iff_iff,List.any_eq_true,decide_eq_true_eq];constructor
  ·rintro ⟨b,hb,e⟩;rw [of_decide_eq_true e];exact hb
  ·exact fun h=>⟨c,h,by simp⟩⟩
 rw [← h1];exact h2
theorem q27_.spec {c:api_Canonical} {l:List api_Canonical} (hs:U32 c.Context) (ha:0<=c.A) (hl:l.length<900):∃ r,q27_.C c l r/\r.length<=l.length+1/\∀ d,d∈r↔d∈l∨(d=c/\¬ Abo c):=by
 obtain ⟨r,h1,h2⟩:=q27_.enter c l (fun r=>r.length<=l.length+1/\∀ d,d∈r↔d∈l∨(d=c/\¬ Abo c)) (by
  have key:∀ b:Bool,(b=true↔Abo c)->q27_.L1 c b l fun r=>r.length<=l.length+1/\∀ d,d∈r↔d∈l∨(d=c/\¬ Abo c):=by
   intro b hb;apply q27_.L1_step
   split
   ·rename_i h;have ht:=hb.1 h;exact ⟨by omega,fun d=>by simp [ht]⟩
   ·rename_i h;have ht:¬ Abo c:=fun h'=>h (hb.2 h');refine ⟨_,Bbt (by omega),?_⟩
    split
    ·rename_i hin;rw [decide_eq_true_eq] at hin;refine ⟨by omega,fun d=>⟨.inl,?_⟩⟩;rintro (h | ⟨rfl,_⟩)
     ·exact h
     ·exact hin
    ·refine ⟨by omega,by simp,fun d=>?_⟩;simp [ht]
  have b0:∀ {i:Int},0<=i->(bAnd .u32 (shrw .u32 c.Context i) 1=1↔(sN c.Context).testBit i.toNat=true):=fun {i} hi=>by
   have e:i=((i.toNat:Nat):Int):=by omega
   have:=Aw8 (k:=.u32) (a:=sN c.Context) (i:=i.toNat) (U32.top hs) (by decide);rw [← hs.eq,← e] at this;exact this
  by_cases h0:c.A=c.B
  ·rw [if_pos h0];exact key true (by simp [Abo,h0])
  rw [if_neg h0];refine ⟨ha,?_⟩;by_cases h1:bAnd .u32 (shrw .u32 c.Context c.A) 1=1
  ·rw [if_pos h1];exact key true (by simp [Abo,(b0 ha).1 h1])
  rw [if_neg h1];have h1':¬ (sN c.Context).testBit c.A.toNat=true:=fun h=>h1 ((b0 ha).2 h);by_cases h2:0<=c.B
  ·rw [if_pos h2];refine ⟨h2,key _ ?_⟩;rw [beq_iff_eq,b0 h2];unfold Abo;constructor
   ·exact fun h=>.inr (.inr ⟨h2,h⟩)
   ·rintro (h | h | h)
    ·exact absurd h h0
    ·exact absurd h h1'
    ·exact h.2
  ·rw [if_neg h2];refine key false ?_;unfold Abo;simp only [Bool.false_eq_true,false_iff];rintro (h | h | h)
   ·exact absurd h h0
   ·exact absurd h h1'
   ·exact absurd h.1 h2)
 exact ⟨r,h2,h1⟩
def genO (X Y:List Nat) (c:api_Canonical):Prop:=(∃ b∈Y,c=⟨(setN X:Nat),(b:Int),-1⟩)∨∃ (i k a b:Nat),X[i]? = some a/\Y[k]? = some b/\c=⟨((setN (X.take i) ||| setN (Y.take k):Nat):Int),((min a b:Nat):Int),((max a b:Nat):Int)⟩
theorem q34_.spec {X0 Y0:List Nat} (hx0:∀ i∈X0,i<16) (hX:X0.length<=8) (hy0:∀ i∈Y0,i<16) (hY:Y0.length<=8):∃ r,q34_.C ⟨nI X0,nI Y0⟩ r/\r.2=0/\r.1.length<=500/\∀ d,d∈r.1↔genO (Aar [] X0) (Aar [] Y0) d/\¬ Abo d:=by
 obtain ⟨r,h1,h2⟩:=q34_.enter ⟨nI X0,nI Y0⟩ (fun r=>r.2=0/\r.1.length<=500/\∀ d,d∈r.1↔genO (Aar [] X0) (Aar [] Y0) d/\¬ Abo d) (by
  refine ⟨_,q55_.ok hx0 hX hy0 hY,?_⟩;rw [if_pos rfl];refine ⟨_,q63_.spec (by omega),_,q63_.spec (by omega),?_⟩;have lX:=Aok (l:=X0) (out:=[]);have lY:=Aok (l:=Y0) (out:=[]);have hx:∀ i∈Aar [] X0,i<16:=fun i hi=>hx0 i (by simpa using Afm.1 hi);have hy:∀ i∈Aar [] Y0,i<16:=fun i hi=>hy0 i (by simpa using Afm.1 hi);generalize Aar [] X0=X at *;generalize Aar [] Y0=Y at *;simp only [List.length_nil,Nat.zero_add] at lX lY;obtain ⟨S,s1,s2⟩:=q10_.spec (l:=nI Y) (by simp;omega);refine ⟨S,s1,?_⟩;have hU:∀ {l:List Nat},(∀ i∈l,i<16)->U32 ((setN l:Nat):Int):=fun h=>U32.of (Nat.lt_of_lt_of_le (Ad6 h) (by decide));have two:∀ (L:List api_Canonical) (i k:Nat),i<=X.length->k<=Y.length->L.length<=50+8*i+k->(∀ d,d∈L↔((∃ b∈Y,d=⟨(setN X:Nat),(b:Int),-1⟩)∨∃ (i' k' a b:Nat),(i'<i∨i'=i/\k'<k)/\X[i']? = some a/\Y[k']? = some b/\d=⟨((setN (X.take i') ||| setN (Y.take k'):Nat):Int),((min a b:Nat):Int),((max a b:Nat):Int)⟩)/\¬ Abo d) ->
    (∀ a,X[i]? = some a->q34_.L3 (nI X) (nI Y) L i a i k fun r=>r.2=0/\r.1.length<=500/\∀ d,d∈r.1↔genO X Y d/\¬ Abo d)/\(k=0->q34_.L2 (nI X) (nI Y) L i fun r=>r.2=0/\r.1.length<=500/\∀ d,d∈r.1↔genO X Y d/\¬ Abo d):=by
   have key:∀ (m:Nat) (L:List api_Canonical) (i k:Nat),m=(X.length-i)*(Y.length+1)+(Y.length-k)->i<=X.length->k<=Y.length->L.length<=50+8*i+k->(∀ d,d∈L↔((∃ b∈Y,d=⟨(setN X:Nat),(b:Int),-1⟩)∨∃ (i' k' a b:Nat),(i'<i∨i'=i/\k'<k)/\X[i']? = some a/\Y[k']? = some b/\d=⟨((setN (X.take i') ||| setN (Y.take k'):Nat):Int),((min a b:Nat):Int),((max a b:Nat):Int)⟩)/\¬ Abo d) ->
    (∀ a,X[i]? = some a->q34_.L3 (nI X) (nI Y) L i a i k fun r=>r.2=0/\r.1.length<=500/\∀ d,d∈r.1↔genO X Y d/\¬ Abo d)/\(k=0->q34_.L2 (nI X) (nI Y) L i fun r=>r.2=0/\r.1.length<=500/\∀ d,d∈r.1↔genO X Y d/\¬ Abo d):=by
    intro m
    induction m using Nat.strongRecOn with
    | _ m ih=>
    intro L i k hm hi hk hL hd;have l3:∀ a,X[i]? = some a->q34_.L3 (nI X) (nI Y) L i a i k fun r=>r.2=0/\r.1.length<=500/\∀ d,d∈r.1↔genO X Y d/\¬ Abo d:=by
     intro a ha;have hlt:=(List.getElem?_eq_some_iff.1 ha).1;apply q34_.L3_step;by_cases hkl:k<Y.length
     ·rw [if_pos (by simp;omega)];have hb:=List.getElem?_eq_getElem hkl;generalize Y[k]=b at hb;have hXt:∀ j∈X.take i,j<16:=fun j hj=>hx j (List.mem_of_mem_take hj);have hYt:∀ j∈Y.take k,j<16:=fun j hj=>hy j (List.mem_of_mem_take hj);have e1:List.take ((i:Int).toNat-0) (nI X)=nI (X.take i):=by rw [Int.toNat_natCast,Nat.sub_zero,nI,nI,List.map_take]
      have e2:List.take ((k:Int).toNat-0) (nI Y)=nI (Y.take k):=by rw [Int.toNat_natCast,Nat.sub_zero,nI,nI,List.map_take]
      refine ⟨b,Aaq (Aka hb),by omega,⟨by omega,by simp;omega⟩,?_⟩;rw [e1,e2];refine ⟨_,q69_.spec hXt (by simp;omega),by omega,⟨by omega,by simp;omega⟩,_,q69_.spec hYt (by simp;omega),?_⟩;have l1:=Ad6 hXt;have l2:=Ad6 hYt;rw [Amw (k:=.u32) (by simp only [top];omega) (by simp only [top];omega),Bcu,Bct,show min (a:Int) (b:Int)=((min a b:Nat):Int) by omega,show max (a:Int) (b:Int)=((max a b:Nat):Int) by omega];obtain ⟨q,q1,q2,q3⟩:=q27_.spec (c:=⟨((setN (X.take i) ||| setN (Y.take k):Nat):Int),((min a b:Nat):Int),((max a b:Nat):Int)⟩) (l:=L) (U32.of (Nat.lt_of_lt_of_le (Nat.or_lt_two_pow l1 l2) (by decide))) (by show (0:Int)<=((min a b:Nat):Int);omega) (by omega);refine ⟨q,q1,?_⟩;rw [Aa4 (by omega)];refine (ih ((X.length-i)*(Y.length+1)+(Y.length-(k+1))) (by omega) q i (k+1) rfl hi hkl (by omega) fun d=>?_).1 a ha;rw [q3,hd];constructor
      ·rintro (⟨h | ⟨i',k',a',b',hik,h1,h2,h3⟩,ht⟩ | ⟨rfl,ht⟩)
       ·exact ⟨.inl h,ht⟩
       ·exact ⟨.inr ⟨i',k',a',b',by omega,h1,h2,h3⟩,ht⟩
       ·exact ⟨.inr ⟨i,k,a,b,by omega,ha,hb,rfl⟩,ht⟩
      ·rintro ⟨h | ⟨i',k',a',b',hik,h1,h2,h3⟩,ht⟩
       ·exact .inl ⟨.inl h,ht⟩
       ·by_cases hq:i'=i/\k'=k
        ·obtain ⟨rfl,rfl⟩:=hq;rw [ha] at h1;rw [hb] at h2;cases h1;cases h2;exact .inr ⟨h3,h3 ▸ ht⟩
        ·exact .inl ⟨.inr ⟨i',k',a',b',by omega,h1,h2,h3⟩,ht⟩
     ·rw [if_neg (by simp;omega),Aa4 (by omega)];have hkY:k=Y.length:=by omega
      have hmul:(X.length-i)*(Y.length+1)=(X.length-(i+1))*(Y.length+1)+(Y.length+1):=by
       rw [show X.length-i=(X.length-(i+1))+1 by omega,Nat.add_mul,Nat.one_mul]
      refine (ih ((X.length-(i+1))*(Y.length+1)+(Y.length-0)) (by omega) L (i+1) 0 rfl hlt (Nat.zero_le _) (by omega) fun d=>?_).2 rfl;rw [hd];refine and_congr_left fun _=>or_congr_right ?_;constructor
      ·rintro ⟨i',k',a',b',hik,h1,h2,h3⟩;exact ⟨i',k',a',b',by omega,h1,h2,h3⟩
      ·rintro ⟨i',k',a',b',hik,h1,h2,h3⟩;have:=(List.getElem?_eq_some_iff.1 h2).1;exact ⟨i',k',a',b',by omega,h1,h2,h3⟩
    refine ⟨l3,fun hk0=>?_⟩;subst hk0;apply q34_.L2_step;by_cases hil:i<X.length
    ·rw [if_pos (by simp;omega)];have ha:=List.getElem?_eq_getElem hil;exact ⟨_,Aaq (Aka ha),l3 _ ha⟩
    ·rw [if_neg (by simp;omega)];refine ⟨rfl,by show L.length<=500;omega,fun d=>?_⟩;rw [hd];refine and_congr_left fun _=>or_congr_right ?_;constructor
     ·rintro ⟨i',k',a',b',_,h1,h2,h3⟩;exact ⟨i',k',a',b',h1,h2,h3⟩
     ·rintro ⟨i',k',a',b',h1,h2,h3⟩;have:=(List.getElem?_eq_some_iff.1 h1).1;exact ⟨i',k',a',b',by omega,h1,h2,h3⟩
   exact fun L i k=>key _ L i k rfl
  have hSl:=s2.length_eq;have one:∀ (R:List Int) (j:Nat) (L:List api_Canonical),S.drop j=R->j<=S.length->L.length<=j->(∀ d,d∈L↔(∃ (q:Nat) (b:Int),q<j/\S[q]? = some b/\d=⟨(setN X:Nat),b,-1⟩)/\¬ Abo d)->q34_.L1 (nI X) (nI Y) L S j fun r=>r.2=0/\r.1.length<=500/\∀ d,d∈r.1↔genO X Y d/\¬ Abo d:=by
   intro R
   induction R with
   | nil=>
    intro j L hd hj hL hdd;apply q34_.L1_step;have:=Ab3 hd;rw [if_neg (by omega)];simp only [nI,List.length_map] at hSl;refine (two L 0 0 (Nat.zero_le _) (Nat.zero_le _) (by omega) fun d=>?_).2 rfl;rw [hdd];refine and_congr_left fun _=>?_;constructor
    ·rintro ⟨q,b,_,hb,rfl⟩;have:=(s2.mem_iff (a:=b)).1 (List.mem_of_getElem? hb);obtain ⟨b',hb',rfl⟩:=List.mem_map.1 this;exact .inl ⟨b',hb',rfl⟩
    ·rintro (⟨b,hb,rfl⟩ | ⟨i',k',a',b',h,_⟩)
     ·have:=(s2.mem_iff (a:=(b:Int))).2 (Aul.2 hb);obtain ⟨q,hq⟩:=List.getElem?_of_mem this;have:=(List.getElem?_eq_some_iff.1 hq).1;exact ⟨q,_,by omega,hq,rfl⟩
     ·omega
   | cons b R ih=>
    intro j L hd hj hL hdd;have hlt:=Ab4 hd;have hb:=Aap hd;have hbm:=(s2.mem_iff (a:=b)).1 (List.mem_of_getElem? hb);obtain ⟨b',hb',e⟩:=List.mem_map.1 hbm;apply q34_.L1_step;simp only [nI,List.length_map] at hSl;rw [if_pos (by omega)];obtain ⟨q,q1,q2,q3⟩:=q27_.spec (c:=⟨(setN X:Nat),b,-1⟩) (l:=L) (hU hx) (by show 0<=b;omega) (by omega);refine ⟨b,Aaq hb,_,q69_.spec hx (by omega),q,q1,?_⟩;rw [Aa4 (by omega)];refine ih (j+1) q (Aah hd) hlt (by omega) fun d=>?_;rw [q3,hdd];constructor
    ·rintro (⟨⟨q',b',h1,h2,h3⟩,ht⟩ | ⟨rfl,ht⟩)
     ·exact ⟨⟨q',b',by omega,h2,h3⟩,ht⟩
     ·exact ⟨⟨j,b,by omega,hb,rfl⟩,ht⟩
    ·rintro ⟨⟨q',b',h1,h2,h3⟩,ht⟩;by_cases hq:q'=j
     ·subst hq;rw [hb] at h2;cases h2;exact .inr ⟨h3,h3 ▸ ht⟩
     ·exact .inl ⟨⟨q',b',by omega,h2,h3⟩,ht⟩
  exact one S 0 [] rfl (Nat.zero_le _) (by simp) fun d=>by simp)
 exact ⟨r,h2,h1⟩
def satO (n:Nat) (c:api_Canonical) (a b:api_Row):Prop:=(∀ i,i<n->(sN c.Context).testBit i=true->cmpA a b i=0)->(c.B<0->cmpA a b c.A.toNat=0)/\(0<=c.B->¬ cmpA a b c.A.toNat*cmpA a b c.B.toNat<0)
theorem Ap3 {a b:api_Row} {i:Nat} : -1<=cmpA a b i/\cmpA a b i<=1:=Ap5
theorem q35_.spec {t:api_Table} {c:api_Canonical} (hT:TV t) (hc:U32 c.Context) (hl:sN c.Context<2^t.Attrs.length) (ha:0<=c.A/\c.A<t.Attrs.length) (hb : -1<=c.B/\c.B<t.Attrs.length):∃ r,q35_.C t c r/\r.2=0/\(r.1=true↔∀ a b,Pr t.Rows a b->satO t.Attrs.length c a b):=by
 have hn:=hT.nr;have hna:=hT.na;have hk:q14_.C t c.Context c.A c.B 0:=by
  obtain ⟨q,q1,q2⟩:=q29_.enter (t.Attrs.length:Int) c.Context c.A c.B (fun q=>q=true) (by
   rw [if_pos ha.1,if_pos ha.2,if_pos hb.1,if_pos hb.2];refine ⟨by omega,?_⟩;have:=Afn (k:=.u32) (a:=sN c.Context) (i:=t.Attrs.length) (U32.top hc);rw [← hc.eq] at this;rw [this,Nat.div_eq_of_lt hl]
   rfl)
  subst q1;obtain ⟨r,h1,h2⟩:=q14_.enter t c.Context c.A c.B (fun r=>r=0) ⟨_,q73_.spec,by
   rw [if_pos (Agm.2 hT)]
   exact ⟨_,q2,by rw [if_pos rfl]⟩⟩
  subst h1;exact h2
 obtain ⟨r,h1,h2⟩:=q35_.enter t c (fun r=>r.2=0/\(r.1=true↔∀ a b,Pr t.Rows a b->satO t.Attrs.length c a b)) ⟨_,hk,by
  rw [if_pos rfl];have fin:q35_.L3 t c (nI ((List.range t.Attrs.length).filter fun i=>(sN c.Context).testBit i)) 0 fun r=>r.2=0/\(r.1=true↔∀ a b,Pr t.Rows a b->satO t.Attrs.length c a b):=by
   generalize hC:(List.range t.Attrs.length).filter (fun i=>(sN c.Context).testBit i)=X;have hX:∀ i,i∈X↔i<t.Attrs.length/\(sN c.Context).testBit i=true:=fun i=>by rw [← hC];simp
   have hXl:X.length<=t.Attrs.length:=by
    rw [← hC];exact Nat.le_trans (List.length_filter_le _ _) (by simp)
   refine Aq8 (rows:=t.Rows) (bad:=fun a b=>¬ satO t.Attrs.length c a b) (L1:=fun i=>q35_.L3 t c (nI X) i fun r=>r.2=0/\(r.1=true↔∀ a b,Pr t.Rows a b->satO t.Attrs.length c a b))
    (L2:=fun a i l j=>q35_.L4 t c (nI X) a i l l.length j fun r=>r.2=0/\(r.1=true↔∀ a b,Pr t.Rows a b->satO t.Attrs.length c a b)) ?_ ?_ ?_ ?_
   ·intro h;apply q35_.L3_step;rw [if_neg (by omega)];exact ⟨rfl,by simp only [true_iff];exact fun a b hp=>Classical.not_not.1 (h a b hp)⟩
   ·intro i a ha hi h;apply q35_.L3_step;rw [if_pos (by omega),Aa4 (by omega)];refine ⟨a,Aaq ha,by omega,by omega,?_⟩;rw [Int.toNat_natCast,List.take_of_length_le (by simp)];exact h
   ·intro a i l hi h;apply q35_.L4_step;rw [if_neg (by omega),Aa4 (by omega)];exact h
   ·intro a i l j b hi hl hbj hj hp h;have hp':=hp;obtain ⟨i',k',_,pa,pb⟩:=hp';have la:=hT.len (List.mem_of_getElem? pa);have lb:=hT.len (List.mem_of_getElem? pb);have next:satO t.Attrs.length c a b->q35_.L5 t c (nI X) a i l l.length j fun r=>r.2=0/\(r.1=true↔∀ a b,Pr t.Rows a b->satO t.Attrs.length c a b):=fun hs=>by
     apply q35_.L5_step;rw [Aa4 (by omega)];exact h fun hn=>hn hs
    have stop:¬ satO t.Attrs.length c a b->((false,(0:Int)):Bool×Int).2=0/\(((false,(0:Int)):Bool×Int).1=true↔∀ a b,Pr t.Rows a b->satO t.Attrs.length c a b):=fun hs=>⟨rfl,by simp only [Bool.false_eq_true,false_iff];exact fun hall=>hs (hall a b hp)⟩
    apply q35_.L4_step;rw [if_pos (by omega)];refine ⟨b,Aaq hbj,_,q41_.spec (X:=X) (fun q hq=>by rw [la];exact ((hX q).1 hq).1) (fun q hq=>by rw [lb];exact ((hX q).1 hq).1) (by omega),?_⟩;have hlex:lexO cmpA a b X=0↔∀ i,i<t.Attrs.length->(sN c.Context).testBit i=true->cmpA a b i=0:=by
     rw [Adg];constructor
     ·exact fun h i h1 h2=>h i ((hX i).2 ⟨h1,h2⟩)
     ·exact fun h i hi=>h i ((hX i).1 hi).1 ((hX i).1 hi).2
    by_cases h0:lexO cmpA a b X=0
    ·rw [if_pos h0];have h0':=hlex.1 h0;have eA:c.A=((c.A.toNat:Nat):Int):=by omega
     have gA:∀ {r:api_Row},r.Values.length=t.Attrs.length->lget r.Values c.A=some (vAt r c.A.toNat):=fun {r} hr=>by
      rw [eA,Abx,Int.toNat_natCast];exact Ai8 (by omega)
     refine ⟨_,gA la,_,gA lb,_,q59_.spec,?_⟩;have h15:cmpV (vAt a c.A.toNat) (vAt b c.A.toNat)=cmpA a b c.A.toNat:=rfl;rw [h15];by_cases hB:c.B<0
     ·rw [if_pos hB];by_cases hz:cmpA a b c.A.toNat=0
      ·rw [if_pos hz,if_neg (by omega)];exact next fun _=>⟨fun _=>hz,fun h=>absurd hB (by omega)⟩
      ·rw [if_neg hz];exact stop fun hs=>hz ((hs h0').1 hB)
     ·rw [if_neg hB,if_pos (by omega)];have eB:c.B=((c.B.toNat:Nat):Int):=by omega
      have gB:∀ {r:api_Row},r.Values.length=t.Attrs.length->lget r.Values c.B=some (vAt r c.B.toNat):=fun {r} hr=>by
       rw [eB,Abx,Int.toNat_natCast];exact Ai8 (by omega)
      refine ⟨_,gB la,_,gB lb,_,q59_.spec,?_⟩;have h25:cmpV (vAt a c.B.toNat) (vAt b c.B.toNat)=cmpA a b c.B.toNat:=rfl;rw [h25,Asd Ap3 Ap3]
      split
      ·rename_i hm;exact stop fun hs=>(hs h0').2 (by omega) hm
      ·rename_i hm;exact next fun _=>⟨fun h=>absurd h hB,fun _=>hm⟩
    ·rw [if_neg h0];exact next fun h=>absurd (hlex.2 h) h0
  have:∀ k,k<=t.Attrs.length->q35_.L1 t c (nI ((List.range k).filter fun i=>(sN c.Context).testBit i)) k fun r=>r.2=0/\(r.1=true↔∀ a b,Pr t.Rows a b->satO t.Attrs.length c a b):=by
   refine down ?_ ?_
   ·apply q35_.L1_step;rw [if_neg (by omega)];exact fin
   ·intro k hk h;apply q35_.L1_step;rw [if_pos (by omega)];refine ⟨by omega,?_⟩;have hbit:=Aw8 (k:=.u32) (a:=sN c.Context) (i:=k) (U32.top hc) (by decide);rw [← hc.eq] at hbit;rw [List.range_succ,List.filter_append] at h;have hlen:((List.range k).filter fun i=>(sN c.Context).testBit i).length<=k:=Nat.le_trans (List.length_filter_le _ _) (by simp)
    split
    ·rename_i h1;have h1:=hbit.1 h1;refine ⟨by simp only [nI,List.length_map];omega,?_⟩;apply q35_.L2_step;rw [Aa4 (by omega)];simp only [List.filter_cons,h1,if_true,List.filter_nil] at h;simp only [nI,List.map_append,List.map_cons,List.map_nil] at h ⊢;exact h
    ·rename_i h1;have h1:¬ (sN c.Context).testBit k=true:=fun h=>h1 (hbit.2 h);apply q35_.L2_step;rw [Aa4 (by omega)];simp only [List.filter_cons,h1,if_false,List.filter_nil,List.append_nil,Bool.false_eq_true] at h;exact h
  have:=this 0 (Nat.zero_le _)
  simpa using this⟩
 exact ⟨r,h2,h1⟩
theorem Ayu {n:Nat} {rows:List api_Row} {X0 Y0:List Nat} (hx0:∀ i∈X0,i<n) (hy0:∀ i∈Y0,i<n) (hn:n<=16) :
  (∀ c,genO (Aar [] X0) (Aar [] Y0) c/\¬ Abo c->∀ a b,Pr rows a b->satO n c a b)↔∀ a b,Pr rows a b->Adi a b X0 Y0:=by
 have e:(∀ a b,Pr rows a b->Adi a b X0 Y0)↔odH cmpA (Pr rows) (Aar [] X0) (Aar [] Y0):=by
  unfold odH Adi;simp only [Aue,List.nil_append]
 rw [e,Bgh];have hx:∀ i∈Aar [] X0,i<n:=fun i hi=>hx0 i (by simpa using Afm.1 hi);have hy:∀ i∈Aar [] Y0,i<n:=fun i hi=>hy0 i (by simpa using Afm.1 hi);generalize Aar [] X0=X at *;generalize Aar [] Y0=Y at *;have e2:∀ {l:List Nat},(∀ i∈l,i<n)->∀ {a b:api_Row},(∀ i,i<n->(sN ((setN l:Nat):Int)).testBit i=true->cmpA a b i=0)↔∀ i∈l,cmpA a b i=0:=fun {l} hl {a b}=>by
  rw [Aiu];constructor
  ·exact fun h i hi=>h i (hl i hi) (by rw [Ad3];exact decide_eq_true hi)
  ·intro h i _ hb;rw [Ad3,decide_eq_true_eq] at hb;exact h i hb
 constructor
 ·intro h;refine ⟨fun b hb r s hp ha=>?_,fun A a B C b D eX eY r s hp hA hC hlt=>?_⟩
  ·by_cases ht:Abo ⟨(setN X:Nat),(b:Int),-1⟩
   ·unfold Abo at ht;rcases ht with h1 | h1 | h1
    ·simp only at h1;omega
    ·simp only [Int.toNat_natCast,Aiu,Ad3,decide_eq_true_eq] at h1;exact ha b h1
    ·exact absurd h1.1 (by show ¬ (0:Int)<=-1;decide)
   ·have:=(h _ ⟨.inl ⟨b,hb,rfl⟩,ht⟩ r s hp ((e2 hx).2 ha)).1 (by show (-1:Int)<0;decide);simpa using this
  ·have hxa:X[A.length]? = some a:=by rw [eX];simp
   have hyb:Y[C.length]? = some b:=by rw [eY];simp
   have eA:X.take A.length=A:=by rw [eX];simp
   have eC:Y.take C.length=C:=by rw [eY];simp
   have hab:cmpA r s (min a b)*cmpA r s (max a b)<0:=by
    rcases Nat.le_total a b with h | h
    ·rw [Nat.min_eq_left h,Nat.max_eq_right h];exact hlt
    ·rw [Nat.min_eq_right h,Nat.max_eq_left h,Int.mul_comm];exact hlt
   have hctx:∀ i,i<n->(sN ((setN A ||| setN C:Nat):Int)).testBit i=true->cmpA r s i=0:=by
    intro i _ hb;rw [Aiu,Nat.testBit_or,Bool.or_eq_true,Ad3,Ad3,decide_eq_true_eq,decide_eq_true_eq] at hb;rcases hb with hb | hb
    ·exact hA i hb
    ·exact hC i hb
   by_cases ht:Abo ⟨((setN A ||| setN C:Nat):Int),((min a b:Nat):Int),((max a b:Nat):Int)⟩
   ·have ha:=hx a (List.mem_of_getElem? hxa);have hb:=hy b (List.mem_of_getElem? hyb);unfold Abo at ht;rcases ht with h1 | h1 | h1
    ·simp only at h1;have h1:min a b=max a b:=by omega
     rw [h1] at hab;have:0<=cmpA r s (max a b)*cmpA r s (max a b):=by
      rcases Int.le_total 0 (cmpA r s (max a b)) with h | h
      ·exact Int.mul_nonneg h h
      ·exact Int.mul_nonneg_of_nonpos_of_nonpos h h
     omega
    ·simp only [Int.toNat_natCast] at h1;rw [hctx _ (by omega) h1,Int.zero_mul] at hab;omega
    ·have h1:=h1.2;simp only [Int.toNat_natCast] at h1;rw [hctx _ (by omega) h1,Int.mul_zero] at hab;omega
   ·have:=(h _ ⟨.inr ⟨A.length,C.length,a,b,hxa,hyb,by rw [eA,eC]⟩,ht⟩ r s hp hctx).2 (by simp only;omega);simp only [Int.toNat_natCast] at this;exact this hab
 ·rintro ⟨h1,h2⟩ c ⟨hg,ht⟩ r s hp hctx;rcases hg with ⟨b,hb,rfl⟩ | ⟨i,k,a,b,ha,hb,rfl⟩
  ·refine ⟨fun _=>?_,fun h=>absurd h (by show ¬ (0:Int)<=-1;decide)⟩;simp only [Int.toNat_natCast];exact h1 b hb r s hp ((e2 hx).1 hctx)
  ·refine ⟨fun h=>absurd h (by simp only;omega),fun _=>?_⟩;simp only [Int.toNat_natCast];have split:∀ {l:List Nat} {i a:Nat},l[i]? = some a->l=l.take i++a::l.drop (i+1):=fun {l i a} h=>by
    obtain ⟨hi,he⟩:=List.getElem?_eq_some_iff.1 h;subst he;rw [← List.drop_eq_getElem_cons hi,List.take_append_drop]
   have hz:∀ i'∈X.take i,cmpA r s i'=0:=fun i' hi'=>hctx i' (hx i' (List.mem_of_mem_take hi')) (by
    rw [Aiu,Nat.testBit_or,Bool.or_eq_true,Ad3];exact .inl (decide_eq_true hi'))
   have hw:∀ i'∈Y.take k,cmpA r s i'=0:=fun i' hi'=>hctx i' (hy i' (List.mem_of_mem_take hi')) (by
    rw [Aiu,Nat.testBit_or,Bool.or_eq_true,Ad3,Ad3];exact .inr (decide_eq_true hi'))
   have:=h2 (X.take i) a (X.drop (i+1)) (Y.take k) b (Y.drop (k+1)) (split ha) (split hb) r s hp hz hw;rcases Nat.le_total a b with h | h
   ·rw [Nat.min_eq_left h,Nat.max_eq_right h];exact this
   ·rw [Nat.min_eq_right h,Nat.max_eq_left h,Int.mul_comm];exact this
def Af0 (t:api_Table) (n:Nat):List (List api_Value):=t.Rows.map fun r=>pick r.Values n
theorem Aep {t:api_Table} {n:Nat}:(Af0 t n).length=t.Rows.length:=by simp [Af0]
def OkP (t:api_Table) (l r i k:Nat):Prop:=(Af0 t l)[i]? = (Af0 t l)[k]?->(Af0 t r)[i]? = (Af0 t r)[k]?
def SatP (t:api_Table) (l r:Nat):Prop:=∀ i k,i<t.Rows.length->k<i->OkP t l r i k
theorem SatP.all {t:api_Table} {l r:Nat} (h:SatP t l r) {i k:Nat} (hi:i<t.Rows.length) (hk:k<t.Rows.length):OkP t l r i k:=by
 rcases Nat.lt_trichotomy i k with h1 | h1 | h1
 ·exact fun e=>(h k i hk h1 e.symm).symm
 ·subst h1;exact fun _=>rfl
 ·exact h i k hi h1
theorem agr {t:api_Table} {n i k:Nat} (hi:i<t.Rows.length) (hk:k<t.Rows.length):Aox (t.Rows[i]).Values (t.Rows[k]).Values n=true↔(Af0 t n)[i]? = (Af0 t n)[k]?:=by
 unfold Af0 Aox;rw [List.getElem?_map,List.getElem?_map,List.getElem?_eq_getElem hi,List.getElem?_eq_getElem hk];simp
def EqA (t:api_Table) (i k a:Nat):Prop:=(t.Rows[i]?.map fun r=>r.Values[a]?)=(t.Rows[k]?.map fun r=>r.Values[a]?)
instance (t:api_Table) (i k a:Nat):Decidable (EqA t i k a):=by unfold EqA;infer_instance
theorem Az9 {a b:List api_Value} (hl:a.length=b.length):∀ {l:List Nat},(l.filterMap fun i=>a[i]?).length=(l.filterMap fun i=>b[i]?).length
 | []=>rfl
 | k::l=>by
  have ih:=Az9 (a:=a) (b:=b) hl (l:=l);by_cases h:k<a.length
  ·have e1:=List.getElem?_eq_getElem h;have e2:=List.getElem?_eq_getElem (l:=b) (i:=k) (by omega);simp only [List.filterMap_cons,e1,e2,List.length_cons,ih]
  ·have e1:a[k]? = none:=List.getElem?_eq_none (by omega);have e2:b[k]? = none:=List.getElem?_eq_none (by omega);simp only [List.filterMap_cons,e1,e2,ih]
def ofP (t:api_Table) (n:Nat):api_Partition:=part (Af0 t n)
theorem Bbo {t:api_Table} {n:Nat} (h:TV t) (hn:TNum t):part (t.Rows.map fun r=>Aed (pick r.Values n))=ofP t n:=by
 unfold ofP Af0;refine Bag (by simp) fun i j hi hj=>?_;rw [List.length_map] at hi hj;rw [List.getElem?_map,List.getElem?_map,List.getElem?_map,List.getElem?_map,List.getElem?_eq_getElem hi,List.getElem?_eq_getElem hj];simp only [Option.map_some,zJ];have m1:=List.getElem_mem hi;have m2:=List.getElem_mem hj;refine Azn (Az9 (by rw [h.len m1,h.len m2])) (fun v hv=>?_) (fun v hv=>?_)
 ·exact ⟨h.val m1 v (Al7 v hv),hn _ m1 v (Al7 v hv)⟩
 ·exact ⟨h.val m2 v (Al7 v hv),hn _ m2 v (Al7 v hv)⟩
namespace q71_
theorem inner {t:api_Table} {n:Nat} {φ:api_Partition->Prop} {ks:List ByteArray} {k:Nat} {r:api_Row} (ht:TV t) (hn:n<2^t.Attrs.length) (hr:r∈t.Rows) (hk:k<1000) (hkk:k<ks.length)
  (h:L1 t ((Aba n).map fun (i:Nat)=>(i:Int)) (ks.set k (Aed (pick r.Values n))) ((k+1:Nat):Int) φ):∀ j,j<=(Aba n).length ->
  L2 t ((Aba n).map fun (i:Nat)=>(i:Int)) ks k r ((Aec (((Aba n).take j).filterMap fun i=>r.Values[i]?)).map b8) k j φ:=by
 have hn32:n<2^32:=Nat.lt_of_lt_of_le hn (Nat.pow_le_pow_right (by decide) (by have:=ht.na;omega));have hl:=Ap0 (n:=n);refine down ?_ ?_
 ·apply L2_step;rw [List.length_map,if_neg (by omega),List.take_length];refine ⟨ks[k],by rw [Abx];exact List.getElem?_eq_getElem hkk,?_⟩;rw [Aa4 (by omega)];have e:lset ks (k:Int) (Aed (pick r.Values n))=ks.set k (Aed (pick r.Values n)):=by simp [lset]
  unfold Aed pick at e h;rw [e];exact h
 ·intro j hj h;apply L2_step;rw [List.length_map,if_pos (by omega)];have hget:=List.getElem?_eq_getElem hj;generalize (Aba n)[j]=i at hget;have hi:=(Adw hn32).1 (List.mem_of_getElem? hget);have hilt:i<t.Attrs.length:=by
   false_or_by_contra
   rename_i hh;rw [Nat.testBit_lt_two_pow (Nat.lt_of_lt_of_le hn (Nat.pow_le_pow_right (by decide) (by omega)))] at hi;cases hi
  have hrl:=ht.len hr;have hv:=List.getElem?_eq_getElem (l:=r.Values) (i:=i) (by omega);generalize r.Values[i]'(by omega)=v at hv;have hval:=ht.val hr v (List.mem_of_getElem? hv);refine ⟨(i:Int),by rw [Abx,List.getElem?_map,hget];rfl,v,Aaq hv,(keyW v,0),q75_.spec hval,?_⟩;have hsum:∀ l:List api_Value,(∀ v∈l,Aas v=true)->(Aec l).length<=403*l.length:=by
   intro l
   induction l with
   | nil=>simp [Aec]
   | cons a l ih=>
    intro hh;have:=ih fun v hv=>hh v (by simp [hv]);have h2:=Au8 (hh a (by simp));simp only [Aec,List.flatMap_cons,List.length_append,List.length_cons] at this ⊢;omega
  have h1:=hsum (((Aba n).take j).filterMap fun i=>r.Values[i]?) (fun v hv=>by
   obtain ⟨i,_,hi⟩:=List.mem_filterMap.1 hv
   exact ht.val hr v (List.mem_of_getElem? hi))
  have h2:(((Aba n).take j).filterMap fun i=>r.Values[i]?).length<=32:=Nat.le_trans (List.length_filterMap_le _ _) (by rw [List.length_take];omega);have h3:=Au8 hval;refine ⟨?_,?_⟩
  ·rw [List.length_map];have:(keyW v).size=(keyJ v).length:=Azl;simp only [this];omega
  ·rw [Aa4 (by omega)];have e:(((Aba n).take (j+1)).filterMap fun i=>r.Values[i]?)=(((Aba n).take j).filterMap fun i=>r.Values[i]?)++[v]:=by
    rw [List.take_add_one,hget,List.filterMap_append];simp [hv]
   rw [e] at h;simp only [Aec,List.flatMap_append,List.map_append] at h;rw [As2];simpa [Aec] using h
theorem spec {t:api_Table} {n:Nat} (ht:TV t) (hnum:TNum t) (hn:n<2^t.Attrs.length):C t n (ofP t n):=by
 have hn32:n<2^32:=Nat.lt_of_lt_of_le hn (Nat.pow_le_pow_right (by decide) (by have:=ht.na;omega));have hr:=ht.nr;obtain ⟨q,h1,h2⟩:=enter t n (fun q=>q=ofP t n) (by
  refine ⟨_,q46_.spec hn32,by omega,?_⟩;have loop:∀ k,k<=t.Rows.length->L1 t ((Aba n).map fun (i:Nat)=>(i:Int)) ((t.Rows.take k).map (fun r=>Aed (pick r.Values n))++List.replicate (t.Rows.length-k) (⟨#[]⟩:ByteArray)) k fun q=>q=ofP t n:=by
   refine down ?_ ?_
   ·apply L1_step;rw [if_neg (by omega),List.take_length,Nat.sub_self,List.replicate_zero,List.append_nil];refine ⟨_,q23_.spec (by rw [List.length_map];omega),?_⟩;rw [← Bbo ht hnum];simp [part]
   ·intro k hk h;apply L1_step;rw [if_pos (by omega)];have hget:=List.getElem?_eq_getElem hk;generalize t.Rows[k]=r at hget;refine ⟨r,Aaq hget,?_⟩;have:=inner (t:=t) (n:=n) (φ:=fun q=>q=ofP t n) (ks:=(t.Rows.take k).map (fun r=>Aed (pick r.Values n))++List.replicate (t.Rows.length-k) (⟨#[]⟩:ByteArray)) (k:=k) (r:=r) ht hn (List.mem_of_getElem? hget) (by omega) (by simp [List.length_take];omega) (by
     have e:((t.Rows.take k).map (fun r=>Aed (pick r.Values n))++List.replicate (t.Rows.length-k) (⟨#[]⟩:ByteArray)).set k (Aed (pick r.Values n))=(t.Rows.take (k+1)).map (fun r=>Aed (pick r.Values n))++List.replicate (t.Rows.length-(k+1)) (⟨#[]⟩:ByteArray):=by
      have hl:((t.Rows.take k).map (fun r=>Aed (pick r.Values n))).length=k:=by rw [List.length_map,List.length_take];omega
      obtain ⟨m,hm⟩:∃ m,t.Rows.length-k=m+1:=⟨t.Rows.length-k-1,by omega⟩
      rw [List.set_append_right _ _ (by omega),hl,Nat.sub_self,hm,List.replicate_succ,List.set_cons_zero,List.take_add_one,hget];have:t.Rows.length-(k+1)=m:=by omega
      rw [this];simp
     rw [e];exact h) 0 (Nat.zero_le _)
    simpa [Aec] using this
  have:=loop 0 (Nat.zero_le _)
  simpa using this)
 rw [← h1];exact h2
end q71_
theorem q44_.spec {t:api_Table} {n:Nat} (hn:n<2^32):q44_.C t n (decide (n<2^t.Attrs.length)):=by
 obtain ⟨q,h1,h2⟩:=q44_.enter t n (fun q=>q=decide (n<2^t.Attrs.length)) (by
  refine ⟨by omega,?_⟩;have hn64:n<2^top .u64:=Nat.lt_of_lt_of_le hn (by decide);rw [Afo hn64,Afn hn64];have:(((n / 2^t.Attrs.length:Nat):Int)=0)↔n<2^t.Attrs.length:=by
   have hp:0<2^t.Attrs.length:=Nat.pos_of_ne_zero (by simp);constructor
   ·intro h;have h2:n / 2^t.Attrs.length=0:=by omega
    rw [Nat.div_eq_zero_iff] at h2;omega
   ·intro h;rw [Nat.div_eq_of_lt h];rfl
  by_cases hh:n<2^t.Attrs.length
  ·simp [hh,this.2 hh]
  ·have h3:¬ ((n / 2^t.Attrs.length:Nat):Int)=0:=fun h=>hh (this.1 h);rw [decide_eq_false hh]
   simpa using h3)
 rw [← h1];exact h2
theorem Bal {t:api_Table} (hr:t.Rows.length<=1000) {l r:Nat}:RefP (ofP t l) (ofP t r)↔SatP t l r:=by
 have hb:Aj6 (ofP t l) (ofP t r)=0:=by
  have v1:Aby (ofP t l)=true:=Al6 (by rw [Aep];exact hr);have v2:Aby (ofP t r)=true:=Al6 (by rw [Aep];exact hr);have e:(ofP t l).Rows=(ofP t r).Rows:=by simp [ofP,part,Aep]
  simp [Aj6,v1,v2,e]
 have er:(ofP t l).Rows=(t.Rows.length:Int):=by simp [ofP,part,Aep]
 have key:∀ (n i j:Nat),i<t.Rows.length->j<t.Rows.length->(Same (ofP t n) i j↔(Af0 t n)[i]? = (Af0 t n)[j]?):=fun n i j hi hj=>by
  unfold ofP;rw [Ba0 (by rw [Aep];omega) (by rw [Aep];omega),Abx,Abx]
 constructor
 ·rintro ⟨_,h⟩ i k hi hk e;exact (key r i k hi (by omega)).1 (h i k (by omega) (by omega) ((key l i k hi (by omega)).2 e))
 ·intro h;refine ⟨hb,fun i j hi hj hs=>?_⟩;obtain ⟨i,rfl⟩:∃ n:Nat,i=n:=⟨i.toNat,by omega⟩
  obtain ⟨j,rfl⟩:∃ n:Nat,j=n:=⟨j.toNat,by omega⟩
  exact (key r i j (by omega) (by omega)).2 (h.all (by omega) (by omega) ((key l i j (by omega) (by omega)).1 hs))
def Aig (t:api_Table) (l r:Nat):Int:=if Aiy t=0 then (if l ||| r<2^t.Attrs.length then 0 else 6) else Aiy t
theorem q54_.spec {t:api_Table} {fd:api_FD} {l r:Nat} (hnum:TNum t) (el:fd.Lhs=l) (er:fd.Rhs=r) (hl:l<2^32) (hr:r<2^32):∃ q,q54_.C t fd q/\q.2=Aig t l r/\(q.1=true↔Aig t l r=0/\SatP t l r):=by
 obtain ⟨q,h1,h2⟩:=q54_.enter t fd (fun q=>q.2=Aig t l r/\(q.1=true↔Aig t l r=0/\SatP t l r)) (by
  refine ⟨_,q73_.spec,?_⟩;unfold Aig
  split
  ·rename_i h0;have ht:=Agm.1 h0;rw [el,er,Amw (k:=.u32) (by simpa [top] using hl) (by simpa [top] using hr)];refine ⟨_,q44_.spec (Nat.or_lt_two_pow hl hr),?_⟩;by_cases hh:l ||| r<2^t.Attrs.length
   ·rw [if_pos (decide_eq_true hh),if_pos hh];have hll:l<2^t.Attrs.length:=Nat.lt_of_le_of_lt Nat.left_le_or hh;have hrr:r<2^t.Attrs.length:=Nat.lt_of_le_of_lt Nat.right_le_or hh;have sm:∀ m,Ah4 (ofP t m):=fun m=>Axq (by rw [Aep];exact ht.nr);obtain ⟨b,hb,hbi⟩:=q39_.spec (sm l) (sm r);refine ⟨_,q71_.spec ht hnum hll,_,q71_.spec ht hnum hrr,b,hb,rfl,?_⟩;rw [hbi,Bal ht.nr];simp
   ·rw [if_neg (by simpa using hh),if_neg hh];simp
  ·rename_i h0;simp [h0])
 exact ⟨q,h2,h1⟩
def ofF:List Int->Int->Int×Int
 | [],s=>(s,0)
 | a::r,s=>if a<0 then (0,7) else if 16<=a then (0,7) else ofF r (bOr .u32 s (shlw .u32 1 a))
theorem q66_.spec {l:List Int} (hl:l.length<9223372036854775807):q66_.C l (ofF l 0):=by
 obtain ⟨r,h1,h2⟩:=q66_.enter l (fun r=>r=ofF l 0) (by
  have:∀ (r:List Int) (k:Nat) (s:Int),l.drop k=r->ofF r s=ofF l 0->q66_.L1 l s k (fun r=>r=ofF l 0):=by
   intro r
   induction r with
   | nil=>
    intro k s hd he;apply q66_.L1_step;have:=Ab3 hd;rw [if_neg (by omega)];exact he
   | cons a r ih=>
    intro k s hd he;have hlt:=Ab4 hd;apply q66_.L1_step;rw [if_pos (by omega)];refine ⟨a,Acs hd,?_⟩;have e0:ofF (a::r) s=if a<0 then (0,7) else if 16<=a then (0,7) else ofF r (bOr .u32 s (shlw .u32 1 a)):=rfl
    rw [e0] at he;by_cases h1:a<0
    ·rw [if_pos h1] at he ⊢;exact he
    ·rw [if_neg h1] at he ⊢;by_cases h2:16<=a
     ·rw [if_pos h2] at he ⊢;exact he
     ·rw [if_neg h2] at he ⊢;refine ⟨by omega,?_⟩;rw [Aa4 (by omega)];exact ih _ _ (Aah hd) he
  exact this l 0 0 rfl rfl)
 rw [← h1];exact h2
theorem ofO:∀ {js:List Nat} {s:Nat},(∀ j∈js,j<16)->s<65536->ofF (nI js) s=(((js.foldl (fun s a=>s ||| 2^a) s:Nat):Int),0)
 | [],s,_,hs=>rfl
 | j::js,s,h,hs=>by
  have hj:=h j (by simp);have hp:2^j<65536:=by
   have:2^j<=2^15:=Nat.pow_le_pow_right (by omega) (by omega);omega
  have e1:shlw .u32 1 (j:Int)=((2^j:Nat):Int):=Auv (k:=.u32) (by simp only [top];omega);have e2:bOr .u32 (s:Int) ((2^j:Nat):Int)=((s ||| 2^j:Nat):Int):=Amw (k:=.u32) (by simp only [top];omega) (by simp only [top];omega);have hs2:s ||| 2^j<65536:=Nat.or_lt_two_pow (n:=16) hs hp
  have:=ofO (js:=js) (s:=s ||| 2^j) (fun i hi=>h i (by simp [hi])) hs2;rw [nI,List.map_cons,ofF,if_neg (by omega),if_neg (by omega),e1,e2];exact this
namespace drosstop_TopOrders
theorem again {φ:Bool->Prop} (h:φ true):L1 φ:=L1_step φ ⟨true,q45_.spec,h⟩
theorem fd_of {t:api_Table} {X Y:List Nat} (hT:TV t) (hx:∀ i∈X,i<16) (hy:∀ i∈Y,i<t.Attrs.length) (h:∀ a b,Pr t.Rows a b->Adi a b X Y):SatP t (setN X) (setN Y):=by
 have hna:=hT.na;have hX:=Nat.lt_of_lt_of_le (Ad6 hx) (show 2^16<=2^32 by decide);have hY:=Nat.lt_of_lt_of_le (Ad6 (n:=16) fun i hi=>by have:=hy i hi;omega) (show 2^16<=2^32 by decide);intro i k hi hk;have hki:k<t.Rows.length:=by omega
 have lk:=hT.len (List.getElem_mem hki);have li:=hT.len (List.getElem_mem hi);unfold OkP;intro e;have e:=(agr hi hki).2 e;refine (agr hi hki).1 ?_;rw [Are hX (by omega)] at e;rw [Are hY (by omega)];have hf:=(h _ _ ⟨k,i,hk,List.getElem?_eq_getElem hki,List.getElem?_eq_getElem hi⟩).1 (Adg.2 fun a ha=>by
  have:=e a (by rw [Ad3];exact decide_eq_true ha);unfold cmpA vAt;rw [this]
  exact Arn.2 rfl)
 intro a ha;rw [Ad3,decide_eq_true_eq] at ha;have h1:=Arn.1 (Adg.1 hf a ha);have hlt:=hy a ha;rw [Ai8 (r:=t.Rows[i]) (by omega),Ai8 (r:=t.Rows[k]) (by omega),h1]
theorem spec (x:drossref03_Recipe) (o:drossref17_Lists) (hx:RecOK x) (hX:∀ c∈o.X,0<=c/\c<256) (hY:∀ c∈o.Y,0<=c/\c<256):C x o true:=by
 obtain ⟨r,e1,e2⟩:=enter x o (fun r=>r=true) (by
  refine ⟨tabF x 8,q40_.spec (most:=8) (by omega) hx,true,q45_.spec,?_⟩;rw [if_pos rfl];by_cases hr:x.Rows.length<=8
  ·have et:tabF x 8=(Adc x (x.Attrs % 6).toNat,true):=by unfold tabF;rw [if_pos hr]
   rw [et,if_pos rfl];have hA:(Adc x (x.Attrs % 6).toNat).Attrs.length=(x.Attrs % 6).toNat:=Aye (by omega);have hT:TV (Adc x (x.Attrs % 6).toNat):=Ayf (by omega) hx (by omega);have hN:TNum (Adc x (x.Attrs % 6).toNat):=Bc4;have hn6:(x.Attrs % 6).toNat<6:=by omega
   generalize Adc x (x.Attrs % 6).toNat=t at *;generalize (x.Attrs % 6).toNat=n at *;show (if ((t.Attrs.length:Nat):Int)=0 then _ else _);by_cases h0:(t.Attrs.length:Int)=0
   ·rw [if_pos h0];exact again rfl
   rw [if_neg h0];by_cases h1:8<(o.X.length:Int)
   ·rw [if_pos h1];exact again rfl
   rw [if_neg h1];by_cases h2:8<(o.Y.length:Int)
   ·rw [if_pos h2];exact again rfl
   rw [if_neg h2];have lX:=Awl (n:=t.Attrs.length) (l:=o.X);have lY:=Awl (n:=t.Attrs.length) (l:=o.Y);have kX:=Auk (n:=t.Attrs.length) (l:=o.X);have kY:=Auk (n:=t.Attrs.length) (l:=o.Y);have hof:=q64_.spec (n:=t.Attrs.length) (x:=o) hX hY (by omega);generalize memN t.Attrs.length o.X=X at *;generalize memN t.Attrs.length o.Y=Y at *;obtain ⟨q,q1,q2,q3⟩:=q56_.spec hT lX (by omega) lY (by omega);have lX16:∀ i∈X,i<16:=fun i hi=>by have:=lX i hi;omega
   have lY16:∀ i∈Y,i<16:=fun i hi=>by have:=lY i hi;omega
   obtain ⟨c,c1,c2,c3,c4⟩:=q34_.spec (X0:=X) (Y0:=Y) lX16 (by omega) lY16 (by omega);refine ⟨_,hof,q,q1,c,c1,?_⟩;rw [if_pos q2,if_pos c2];have hcan:=Ayu (n:=t.Attrs.length) (rows:=t.Rows) lX lY (by omega);rw [← q3] at hcan;have fin:q.1=true->SatP t (setN X) (setN Y):=fun h=>fd_of hT lX16 lY (q3.1 h);have ex:ofF (nI X) 0=(((setN X:Nat):Int),0):=ofO lX16 (by decide);have ey:ofF (nI Y) 0=(((setN Y:Nat):Int),0):=ofO lY16 (by decide);have bx:=Nat.lt_of_lt_of_le (Ad6 lX16) (show 2^16<=2^32 by decide);have by_:=Nat.lt_of_lt_of_le (Ad6 lY16) (show 2^16<=2^32 by decide);obtain ⟨p,p1,p2,p3⟩:=q54_.spec (t:=t) (fd:=⟨((setN X:Nat):Int),((setN Y:Nat):Int)⟩) hN rfl rfl bx by_;have hE:Aig t (setN X) (setN Y)=0:=by
    unfold Aig;rw [if_pos (Agm.2 hT),if_pos (Nat.or_lt_two_pow (Ad6 lX) (Ad6 lY))]
   have stop:∀ j:Int,¬ j<(c.1.length:Int)->L2 (t,true) ⟨nI X,nI Y⟩ q c q.1 j fun r=>r=true:=fun j hj=>by
    apply L2_step;rw [if_neg hj,if_pos rfl];refine ⟨_,q66_.spec (l:=nI X) (by simp [nI];omega),_,q66_.spec (l:=nI Y) (by simp [nI];omega),p,by rw [ex,ey];exact p1,?_⟩;rw [if_pos (by rw [p2,hE])]
    split
    ·rename_i hq;exact p3.2 ⟨hE,fin hq⟩
    ·rfl
   have hgen:∀ d∈c.1,∃ s,q35_.C t d s/\s.2=0/\(s.1=true↔∀ a b,Pr t.Rows a b->satO t.Attrs.length d a b):=by
    intro d hd;have hg:=((c4 d).1 hd).1;have oX:∀ i∈Aar [] X,i<t.Attrs.length:=fun i hi=>lX i (by simpa using Afm.1 hi);have oY:∀ i∈Aar [] Y,i<t.Attrs.length:=fun i hi=>lY i (by simpa using Afm.1 hi);have h16:2^t.Attrs.length<=2^32:=Nat.pow_le_pow_right (by decide) (by omega);rcases hg with ⟨b,hb,rfl⟩ | ⟨i,k,a,b,ha,hb,rfl⟩
    ·have hl:=Ad6 oX;refine q35_.spec hT (U32.of (by omega)) (by rw [Aiu];exact hl) ?_ ?_
     ·have:=oY b hb;simp only;omega
     ·simp only;omega
    ·have hl:=Nat.or_lt_two_pow (Ad6 (l:=(Aar [] X).take i) fun j hj=>oX j (List.mem_of_mem_take hj)) (Ad6 (l:=(Aar [] Y).take k) fun j hj=>oY j (List.mem_of_mem_take hj));have ha:=oX a (List.mem_of_getElem? ha);have hb:=oY b (List.mem_of_getElem? hb);refine q35_.spec hT (U32.of (by omega)) (by rw [Aiu];exact hl) ?_ ?_
     ·simp only;omega
     ·simp only;omega
   have loop:∀ (R:List api_Canonical) (j:Nat) (b:Bool),c.1.drop j=R->(b=true↔∀ d∈c.1.take j,∀ a b,Pr t.Rows a b->satO t.Attrs.length d a b)->L2 (t,true) ⟨nI X,nI Y⟩ q c b j fun r=>r=true:=by
    intro R
    induction R with
    | nil=>
     intro j b hd hb;have hge:=Ab3 hd;have:b=q.1:=by
      rw [List.take_of_length_le hge] at hb;rw [Bool.eq_iff_iff,hb,← hcan];constructor
      ·exact fun h d hd=>h d ((c4 d).2 hd)
      ·exact fun h d hd=>h d ((c4 d).1 hd)
     rw [this];exact stop j (by omega)
    | cons d R ih=>
     intro j b hd hb;have hlt:=Ab4 hd;have hg:=Aap hd;obtain ⟨s,s1,s2,s3⟩:=hgen d (List.mem_of_getElem? hg);apply L2_step;rw [if_pos (by omega)];refine ⟨d,Aaq hg,s,s1,?_⟩;rw [if_pos s2];have next:∀ b',(b'=true↔b=true/\s.1=true)->L3 (t,true) ⟨nI X,nI Y⟩ q c b' j fun r=>r=true:=fun b' hb'=>by
      apply L3_step;rw [Aa4 (by omega)];refine ih (j+1) b' (Aah hd) ?_;rw [hb',hb,s3,List.take_add_one,hg];simp only [Option.toList_some,List.mem_append,List.mem_singleton,forall_eq_or_imp,forall_eq,or_imp,forall_and]
     split
     ·rename_i h;exact next _ (by simp [h])
     ·rename_i h;exact next _ (by simp [h])
   exact loop c.1 0 true rfl (by simp)
  ·have et:tabF x 8=(⟨⟨#[]⟩,[],[]⟩,false):=by unfold tabF;rw [if_neg hr]
   rw [et,if_neg (by decide)]
   exact again rfl)
 subst e1;exact e2
theorem law {xs:List D} (hx:Aj5 env.P Akx Aky xs):Ret env Akw xs (.lit (.bool true)) []:=
 Ak3 (fun x0 x1 h0 h1=>spec x0 x1 ⟨Aqh h0.1,Aqh h0.2.1,fun r hr c hc=>Aqh ((h0.2.2.2 r hr).2 c hc)⟩ (fun c hc=>Aqh (h1.1.2 c hc)) (fun c hc=>Aqh (h1.2.2 c hc))) hx
end drosstop_TopOrders
end Go.Own
