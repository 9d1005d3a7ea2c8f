/- What the functions answer. No conditions. -/
import Derived.Test.YtockohmmmlhhfabGreatDoorTopTranslationsLaw7
import Derived.Test.YtockohmmmlhhfabGreatDoorTopTranslationsLaw1
import Derived.Test.YtockohmmmlhhfabGreatDoorTopTranslationsLaw10
set_option linter.all false
namespace Go.Own
def letB (x:Int):Bool:=decide (97<=x/\x<=122∨65<=x/\x<=90∨x=95)
def alnB (x:Int):Bool:=letB x || decide (48<=x/\x<=57)
def Aqm:List UInt8:=[110,117,108,108]
theorem Bc1:((⟨#[110,117,108,108]⟩:ByteArray)).toList=Aqm:=Ank (l:=Aqm)
theorem Au5:((⟨#[]⟩:ByteArray)).toList=[]:=Ank (l:=[])
def Acs:List UInt8->Bool
 | []=>false
 | b::r=>decide (r.length<24)&&letB (u8i b)&&!decide (b::r=Aqm)&&r.all fun b=>alnB (u8i b)
def Ah9 (s:ByteArray):Bool:=Acs s.toList
theorem Bag {φ:Bool->Prop} {P:Prop} {x:Int} (h:if alnB x=true then P else φ false) (hl:¬ letB x=true):if x<48 then φ false else if 57<x then φ false else P:=by
 have e:alnB x=decide (48<=x/\x<=57):=by unfold alnB;rw [Bool.eq_false_iff.2 hl,Bool.false_or]
 rw [e] at h
 repeat' split
 ·rw [if_neg (by rw [decide_eq_true_iff];omega)] at h;exact h
 ·rw [if_neg (by rw [decide_eq_true_iff];omega)] at h;exact h
 ·rw [if_pos (by rw [decide_eq_true_iff];omega)] at h;exact h
namespace q88_
theorem two {s:ByteArray} {i:Int} {φ:Bool->Prop} {x:Int} (h:if letB x=true then L3 s i φ else if i=0 then φ false else if x<48 then φ false else if 57<x then φ false else L3 s i φ):L2 s i x (letB x) φ:=by
 apply L2_step;exact h
theorem spec {s : ByteArray} : C s (Ah9 s) := by
  obtain ⟨r, h1, h2⟩ := enter s (fun r => r = Ah9 s) (by
    unfold Ah9;rw [Al4, Bc1, Au5];cases hs : s.toList with
    | nil => simp [Acs]
    | cons b t =>
      rw [if_neg (by simp)]
      split
      · rename_i hn
        have hn : 24 <= t.length := by simp at hn; omega
        simp [Acs]; omega
      · rename_i hn
        have hn : t.length < 24 := by simp at hn; omega
        have hlen : s.toList.length = t.length + 1 := by rw [hs]; rfl
        split
        · rename_i h0
          simp [Acs, Aqm, h0]
        · rename_i h0
          have body : ∀ (k : Nat) c, s.toList[k]? = some c -> (if letB (u8i c) = true then L1 s ((k + 1 : Nat) : Int) (fun r => r = Acs (b :: t)) else if (k : Int) = 0 then false = Acs (b :: t) else if (u8i c) < 48 then false = Acs (b :: t) else if 57 < (u8i c) then false = Acs (b :: t) else L1 s ((k + 1 : Nat) : Int) (fun r => r = Acs (b :: t))) -> L1 s k (fun r => r = Acs (b :: t)) := by
            intro k c hc h;have hk := (List.getElem?_eq_some_iff.1 hc).1;apply L1_step;rw [Al4, if_pos (by omega)];refine ⟨c, Bbv hc, ?_⟩;have next : L1 s ((k + 1 : Nat) : Int) (fun r => r = Acs (b :: t)) -> L3 s k fun r => r = Acs (b :: t) := fun h => by
              apply L3_step;rw [Aa6 (by omega)];exact h
            have key : L2 s k (u8i c) (letB (u8i c)) fun r => r = Acs (b :: t) := by
              apply two
              split
              · rename_i hh; rw [if_pos hh] at h; exact next h
              · rename_i hh; rw [if_neg hh] at h
                split
                · rename_i h2; rw [if_pos h2] at h; exact h
                · rename_i h2; rw [if_neg h2] at h
                  split
                  · rename_i h3; rw [if_pos h3] at h; exact h
                  · rename_i h3; rw [if_neg h3] at h
                    split
                    · rename_i h4; rw [if_pos h4] at h; exact h
                    · rename_i h4; rw [if_neg h4] at h; exact next h
            have e : ∀ v, v = letB (u8i c) -> L2 s k (u8i c) v fun r => r = Acs (b :: t) := by rintro _ rfl; exact key
            repeat' split
            all_goals apply e
            all_goals unfold letB
            all_goals first
              | (symm; rw [decide_eq_true_iff]; omega)
              | (by_cases h : u8i c = 95
                 · simp [h]
                 · have : (u8i c == 95) = false := by simpa using h
                   rw [this]; symm; rw [decide_eq_false_iff_not]; omega)
          have h0s : s.toList[0]? = some b := by rw [hs]; rfl
          refine body 0 b h0s ?_
          split
          · rename_i hb
            have rest := Aos (l := t) (p := fun b => alnB (u8i b)) (L := fun i => L1 s (i + 1) fun r => r = Acs (b :: t)) (φ := fun r => r = Acs (b :: t)) ?_ ?_ ?_
            · simpa using rest
            · intro h
              apply L1_step;rw [Al4, if_neg (by omega)]; exact h
            · intro k c hc hk h
              have e1 : ((k : Nat) : Int) + 1 = ((k + 1 : Nat) : Int) := by omega
              rw [e1];refine body (k + 1) c (by rw [hs]; simpa using hc) ?_
              split
              · rename_i hl
                rw [if_pos (by unfold alnB; rw [hl]; rfl)] at h;exact h
              · rename_i hl
                rw [if_neg (by omega)];exact Bag (φ := fun r => r = Acs (b :: t)) h hl
            · simp [Acs, hb, h0, hn]
          · rename_i hb
            simp [Acs, hb])
  rw [← h1]; exact h2
end q88_
def eqS (x a:ByteArray):Bool:=decide (a=x)
def Afc:List ByteArray->List ByteArray->Bool
 | _,[]=>true
 | pre,a::r=>Ah9 a&&!pre.any (eqS a)&&Afc (pre++[a]) r
def Afl (l:List ByteArray):Bool:=Afc [] l
namespace q31_
theorem spec {l:List ByteArray} {x:ByteArray} (hn:l.length<Big):C l x (ixI (eqS x) l):=by
 obtain ⟨r,h1,h2⟩:=enter l x (fun r=>r=ixI (eqS x) l) (by
  refine Alf (l:=l) (p:=eqS x) (L:=fun i=>L1 l x i _) (φ:=fun r=>r=ixI (eqS x) l) ?_ ?_ rfl
  ·intro h;apply L1_step;rw [if_neg (by omega)];exact h
  ·intro k a ha hk h;apply L1_step;rw [if_pos (by omega)];refine ⟨a,Aap ha,?_⟩;rw [Aa6 (by unfold Big at hn;omega)]
   split
   ·rename_i hh;rw [if_pos (by simp [eqS,Au4.1 hh])] at h;exact h
   ·rename_i hh;rw [if_neg (by simp only [eqS,decide_eq_true_eq];rintro rfl;exact hh rfl)] at h;exact h)
 rw [← h1];exact h2
end q31_
theorem q28_.spec {l:List ByteArray} {x:ByteArray} (hn:l.length<Big):q28_.C l x (l.any (eqS x)):=by
 obtain ⟨r,h1,h2⟩:=q28_.enter l x (fun r=>r=l.any (eqS x)) ⟨_,q31_.spec hn,by rw [Arl]⟩;rw [← h1];exact h2
theorem Axv {l : List ByteArray} {L : Int -> Prop} {P Q : Prop} (stop : P -> L (l.length : Int))
    (step : ∀ (k : Nat) a, l[k]? = some a -> k < l.length -> (if Ah9 a = true then (if (l.take k).any (eqS a) = true then Q else L ((k + 1 : Nat) : Int)) else Q) -> L k) (h : Afl l = true -> P) (h' : Afl l = false -> Q) : L 0 := by
  have : ∀ (r : List ByteArray) (k : Nat), l.drop k = r -> k <= l.length -> (Afc (l.take k) r = true -> P) -> (Afc (l.take k) r = false -> Q) -> L k := by
    intro r
    induction r with
    | nil => intro k hd hk h h'; have : k = l.length := by have := Abg hd; omega
             subst this; exact stop (h rfl)
    | cons a r ih =>
      intro k hd hk h h';have hlt := Abh hd;refine step k a (Aas hd) hlt ?_;have hn := ih (k + 1) (Aah hd) hlt;have e : l.take (k + 1) = l.take k ++ [a] := by rw [List.take_add_one, Aas hd]; rfl
      rw [e] at hn;simp only [Afc] at h h'
      split
      · rename_i h1
        split
        · rename_i h2
          exact h' (by simp [h1, h2])
        · rename_i h2
          have h2 := Bool.eq_false_iff.2 h2;exact hn (fun hh => h (by simp [h1, h2, hh])) (fun hh => h' (by simp [h1, h2, hh]))
      · rename_i h1
        have h1 := Bool.eq_false_iff.2 h1;exact h' (by simp [h1])
  exact this l 0 rfl (Nat.zero_le _) h h'
def Ac5 (v:api_Value):Bool:=decide (v.Kind=0/\v.Num=0/\v.Str.toList=[]∨v.Kind=1/\v.Str.toList=[]∨v.Kind=2/\v.Num=0/\v.Str.toList.length<=200∨v.Kind=3/\1<=v.Num/\v.Str.toList=[])
theorem Ayf {v : api_Value} {φ : Bool -> Prop} (h : φ (Ac5 v)) : (if v.Kind = 0 then (if v.Num = 0 then φ ((v.Str.toList == ((⟨#[]⟩ : ByteArray)).toList)) else φ false) else (if v.Kind = 1 then φ ((v.Str.toList == ((⟨#[]⟩ : ByteArray)).toList)) else (if v.Kind = 2 then (if v.Num = 0 then φ ((decide ((Ajb v.Str) <= 200))) else φ false) else (if v.Kind = 3 then (if 1 <= v.Num then φ ((v.Str.toList == ((⟨#[]⟩ : ByteArray)).toList)) else φ false) else φ false)))) := by
  have e : ∀ b, b = Ac5 v -> φ b := by rintro _ rfl; exact h
  have e0 : (v.Str.toList == ((⟨#[]⟩ : ByteArray)).toList) = decide (v.Str.toList = []) := by
    rw [Au5];by_cases h : v.Str.toList = []
    · simp [h]
    · simp [h]
  rw [e0, Al4]
  repeat' split
  all_goals apply e
  all_goals unfold Ac5
  all_goals first
    | (rw [decide_eq_decide]; omega)
    | (symm; rw [decide_eq_false_iff_not]; omega)
    | (rw [decide_eq_decide]; constructor
       · intro h; simp_all
       · intro h; simp_all)
theorem q90_.spec {v:api_Value}:q90_.C v (Ac5 v):=by
 obtain ⟨r,h1,h2⟩:=q90_.enter v (fun r=>r=Ac5 v) (Ayf (φ:=fun r=>r=Ac5 v) rfl);rw [← h1];exact h2
def Aem (l:List api_Value):Bool:=l.all Ac5
theorem q42_.spec {v:api_Value}:q42_.C v (!Ac5 v):=by
 obtain ⟨r,h1,h2⟩:=q42_.enter v (fun r=>r=!Ac5 v) ⟨_,q90_.spec,rfl⟩;rw [← h1];exact h2
namespace q13_
theorem spec {l:List api_Value} (hn:l.length<Big):C l (ixI (fun v=>!Ac5 v) l):=by
 obtain ⟨r,h1,h2⟩:=enter l (fun r=>r=ixI (fun v=>!Ac5 v) l) (by
  refine Alf (l:=l) (p:=fun v=>!Ac5 v) (L:=fun i=>L1 l i _) (φ:=fun r=>r=ixI (fun v=>!Ac5 v) l) ?_ ?_ rfl
  ·intro h;apply L1_step;rw [if_neg (by omega)];exact h
  ·intro k a ha hk h;apply L1_step;rw [if_pos (by omega)];refine ⟨a,Aap ha,_,q42_.spec,?_⟩;rw [Aa6 (by unfold Big at hn;omega)]
   exact h)
 rw [← h1];exact h2
end q13_
theorem q7_.spec {l:List api_Value} (hn:l.length<Big):q7_.C l (!Aem l):=by
 obtain ⟨r,h1,h2⟩:=q7_.enter l (fun r=>r=!Aem l) ⟨_,q13_.spec hn,by
  rw [Arl];unfold Aem;rw [List.any_eq_not_all_not];simp⟩
 rw [← h1];exact h2
theorem q48_.spec {l:List api_Value} (hn:l.length<Big):q48_.C l (Aem l):=by
 obtain ⟨r,h1,h2⟩:=q48_.enter l (fun r=>r=Aem l) ⟨_,q7_.spec hn,by
  show (!(!Aem l))=_
  rw [Bool.not_not]⟩
 rw [← h1];exact h2
def Ada (n:Nat):Int->List api_Row->Int
 | _,[]=>0
 | last,r::rs=>if r.ID<=last then 1 else if r.Values.length=n then (if Aem r.Values=true then Ada n r.ID rs else 1) else 6
def An4 (t:api_Table):Int:=if Ah9 t.Name=true then (if 16<t.Attrs.length then 3 else if 1000<t.Rows.length then 3 else if Afl t.Attrs=true then Ada t.Attrs.length 0 t.Rows else 1) else 1
theorem Azu {n : Nat} {l : List api_Row} {L : Int -> Int -> Prop} {φ : Int -> Prop} (stop : ∀ last, φ 0 -> L last (l.length : Int))
    (step : ∀ (k : Nat) r last, l[k]? = some r -> k < l.length -> (if r.ID <= last then φ 1 else if r.Values.length = n then (if Aem r.Values = true then L r.ID ((k + 1 : Nat) : Int) else φ 1) else φ 6) -> L last k) (h : φ (Ada n 0 l)) : L 0 0 := by
  have : ∀ (r : List api_Row) (k : Nat) (last : Int), l.drop k = r -> k <= l.length -> φ (Ada n last r) -> L last k := by
    intro r
    induction r with
    | nil => intro k last hd hk h; have : k = l.length := by have := Abg hd; omega
             subst this; exact stop _ h
    | cons a r ih =>
      intro k last hd hk h;have hlt := Abh hd;refine step k a last (Aas hd) hlt ?_;simp only [Ada] at h
      split
      · rename_i h1; rw [if_pos h1] at h; exact h
      · rename_i h1; rw [if_neg h1] at h
        split
        · rename_i h2; rw [if_pos h2] at h
          split
          · rename_i h3; rw [if_pos h3] at h; exact ih (k + 1) _ (Aah hd) hlt h
          · rename_i h3; rw [if_neg h3] at h; exact h
        · rename_i h2; rw [if_neg h2] at h; exact h
  exact this l 0 0 rfl (Nat.zero_le _) h
namespace q91_
theorem rows {t:api_Table} {φ:Int->Prop} (hr:t.Rows.length<=1000) (ha:t.Attrs.length<=16) (h:φ (Ada t.Attrs.length 0 t.Rows)):L2 t 0 0 φ:=by
 refine Azu (n:=t.Attrs.length) (l:=t.Rows) (L:=fun last i=>L2 t last i φ) (φ:=φ) ?_ ?_ h
 ·intro last h;apply L2_step;rw [if_neg (by omega)];exact h
 ·intro k r last hr hk h;apply L2_step;rw [if_pos (by omega)];refine ⟨r,Aap hr,?_⟩
  split
  ·rename_i h1;rw [if_pos h1] at h;exact h
  ·rename_i h1;rw [if_neg h1] at h
   split
   ·rename_i h2;have h2:r.Values.length=t.Attrs.length:=by omega
    rw [if_pos h2] at h;refine ⟨_,q48_.spec (by unfold Big;omega),?_⟩;rw [Aa6 (by omega)];exact h
   ·rename_i h2;rw [if_neg (by omega)] at h;exact h
theorem spec {t:api_Table}:C t (An4 t):=by
 obtain ⟨r,h1,h2⟩:=enter t (fun r=>r=An4 t) (by
  refine ⟨_,q88_.spec,?_⟩;unfold An4
  split
  ·by_cases h1:16<t.Attrs.length
   ·rw [if_pos (by omega),if_pos h1]
   ·rw [if_neg (by omega),if_neg h1];by_cases h2:1000<t.Rows.length
    ·rw [if_pos (by omega),if_pos h2]
    ·rw [if_neg (by omega),if_neg h2];refine Axv (l:=t.Attrs) (L:=fun i=>L1 t i _) (P:=Ada t.Attrs.length 0 t.Rows=if Afl t.Attrs=true then Ada t.Attrs.length 0 t.Rows else 1) (Q:=(1:Int)=if Afl t.Attrs=true then Ada t.Attrs.length 0 t.Rows else 1) ?_ ?_ ?_ ?_
     ·intro h;apply L1_step;rw [if_neg (by omega)];exact rows (φ:=fun r=>r=if Afl t.Attrs=true then Ada t.Attrs.length 0 t.Rows else 1) (by omega) (by omega) h
     ·intro k a ha hk h;apply L1_step;rw [if_pos (by omega)];refine ⟨a,Aap ha,_,q88_.spec,?_⟩
      split
      ·rename_i h1;rw [if_pos h1] at h;refine ⟨by omega,by omega,_,q28_.spec (by rw [List.length_take];unfold Big;omega),?_⟩;rw [Int.toNat_natCast,Nat.sub_zero,Aa6 (by omega)];exact h
      ·rename_i h1;rw [if_neg h1] at h;exact h
     ·intro h;rw [if_pos h]
     ·intro h;rw [if_neg (by rw [h];decide)]
  ·rfl)
 rw [← h1];exact h2
end q91_
namespace q69_
theorem spec {n i:Nat} (hn:n<2^32):C n i (n.testBit i):=by
 obtain ⟨r,h1,h2⟩:=enter n i (fun r=>r=n.testBit i) (by
  rw [if_pos (by omega)]
  split
  ·refine ⟨by omega,?_⟩;rw [Bc0 (k:=.u32) (by simpa [top] using hn) (by decide)];cases n.testBit i<;>rfl
  ·rw [Nat.testBit_lt_two_pow (Nat.lt_of_lt_of_le hn (Nat.pow_le_pow_right (by decide) (by omega)))])
 rw [← h1];exact h2
end q69_
end Go.Own

namespace Go.Own
theorem Aby {a b:Int}:cmpI a b=0↔a=b:=by
 unfold cmpI;repeat' split
 all_goals omega
def cmpL:List UInt8->List UInt8->Int
 | [],[]=>0
 | [],_::_=>-1
 | _::_,[]=>1
 | a::r,b::s=>if a=b then cmpL r s else cmpI (u8i a) (u8i b)
theorem As9:∀ {a b:List UInt8},cmpL a b=0↔a=b
 | [],[]=>by simp [cmpL]
 | [],_::_=>by simp [cmpL]
 | _::_,[]=>by simp [cmpL]
 | a::r,b::s=>by
  simp only [cmpL]
  split
  ·rename_i h;subst h;rw [As9];simp
  ·rename_i h;rw [Aby,Aww];simp [h]
def cmpS (a b:ByteArray):Int:=cmpL a.toList b.toList
def cmpV (v w:api_Value):Int:=if cmpI v.Kind w.Kind=0 then (if cmpI v.Num w.Num=0 then cmpS v.Str w.Str else cmpI v.Num w.Num) else cmpI v.Kind w.Kind
theorem Ajd {v w:api_Value}:cmpV v w=0↔v=w:=by
 obtain ⟨k,n,s⟩:=v;obtain ⟨k',n',s'⟩:=w;unfold cmpV cmpS;simp only [api_Value.mk.injEq]
 split
 ·rename_i h1;rw [Aby] at h1
  split
  ·rename_i h2;rw [Aby] at h2;rw [As9,Au4];simp [h1,h2]
  ·rename_i h2;have h3:=h2;rw [Aby] at h3;simp [h2,h3]
 ·rename_i h1;have h3:=h1;rw [Aby] at h3;simp [h1,h3]
def Bbg (v:api_Value):Prop:=-9223372036854775808<=v.Num/\v.Num<9223372036854775808
def b8 (x:Int):UInt8:=UInt8.ofNat x.toNat
def pick (l:List api_Value) (n:Nat):List api_Value:=(Bdy n).filterMap fun i=>l[i]?
structure TV (t:api_Table):Prop where
 name:Ah9 t.Name=true
 na:t.Attrs.length<=16
 nr:t.Rows.length<=1000
 names:Afl t.Attrs=true
 rows:Ada t.Attrs.length 0 t.Rows=0
theorem Alq {t:api_Table}:An4 t=0↔TV t:=by
 unfold An4;constructor
 ·intro h
  split at h
  ·split at h
   ·cases h
   ·split at h
    ·cases h
    ·split at h
     ·rename_i h1 h2 h3 h4;exact ⟨h1,by omega,by omega,h4,h⟩
     ·cases h
  ·cases h
 ·intro h;rw [if_pos h.name,if_neg (by have:=h.na;omega),if_neg (by have:=h.nr;omega),if_pos h.names];exact h.rows
theorem Amy {n:Nat}:∀ {l:List api_Row} {last:Int},Ada n last l=0->∀ r∈l,r.Values.length=n/\(∀ v∈r.Values,Ac5 v=true)/\last<r.ID
 | [],_,_,r,hr=>by cases hr
 | a::l,last,h,r,hr=>by
  simp only [Ada] at h
  split at h
  ·cases h
  ·split at h
   ·split at h
    ·rename_i h1 h2 h3;unfold Aem at h3;rw [List.all_eq_true] at h3;rcases List.mem_cons.1 hr with rfl | hr
     ·exact ⟨h2,h3,by omega⟩
     ·obtain ⟨e1,e2,e3⟩:=Amy h r hr;exact ⟨e1,e2,by omega⟩
    ·cases h
   ·cases h
theorem TV.len {t:api_Table} (h:TV t) {r:api_Row} (hr:r∈t.Rows):r.Values.length=t.Attrs.length:=(Amy h.rows r hr).1
theorem Awg:∀ {a b:List UInt8},Lib.compareBytes a b=cmpL a b
 | [],[]=>rfl
 | [],_::_=>rfl
 | _::_,[]=>rfl
 | a::r,b::s=>by
  rw [Lib.compareBytes,cmpL,Awg (a:=r) (b:=s)];have lt:∀ {x y:UInt8},x<y↔u8i x<u8i y:=fun {x y}=>by
   unfold u8i;rw [UInt8.lt_iff_toNat_lt];omega
  by_cases h:a=b
  ·subst h;rw [if_neg (by rw [lt];omega),if_neg (by rw [lt];omega),if_pos rfl]
  ·rw [if_neg h];unfold cmpI;by_cases h1:a<b
   ·rw [if_pos h1,if_pos (lt.1 h1)]
   ·rw [if_neg h1,if_neg (fun hh=>h1 (lt.2 hh))];have h2:b<a:=by
     rw [lt] at h1 ⊢;have:u8i a≠u8i b:=fun hh=>h (Aww.1 hh);omega
    rw [if_pos h2,if_pos (lt.1 h2)]
theorem Bbu {a b:ByteArray}:bcmp a b=cmpS a b:=by
 unfold bcmp cmpS;rw [Awg,Al3,Al3]
theorem Awo {x:Int}:q79_.C x false:=by
 obtain ⟨r,h1,h2⟩:=q79_.enter x (fun r=>r=false) (by simp);rw [← h1];exact h2
theorem Amn {x:Int}:q62_.C x false:=by
 obtain ⟨r,h1,h2⟩:=q62_.enter x (fun r=>r=false) (by simp);rw [← h1];exact h2
theorem Avq {x y:Int}:q64_.C x y (cmpI x y):=by
 obtain ⟨r,h1,h2⟩:=q64_.enter x y (fun r=>r=cmpI x y) ⟨_,Awo,_,Awo,by
  rw [if_neg Bool.false_ne_true,if_neg Bool.false_ne_true];unfold cmpI
  split
  ·rfl
  ·split<;>rfl⟩
 rw [← h1];exact h2
theorem Alx {x y:Int}:q47_.C x y (cmpI x y):=by
 obtain ⟨r,h1,h2⟩:=q47_.enter x y (fun r=>r=cmpI x y) ⟨_,Amn,_,Amn,by
  rw [if_neg Bool.false_ne_true,if_neg Bool.false_ne_true];unfold cmpI
  split
  ·rfl
  ·split<;>rfl⟩
 rw [← h1];exact h2
theorem q65_.spec {a b:ByteArray}:q65_.C a b (cmpS a b):=by
 obtain ⟨q,g1,g2⟩:=q29_.enter a b (fun r=>r=cmpS a b) Bbu;obtain ⟨r,h1,h2⟩:=q65_.enter a b (fun r=>r=cmpS a b) ⟨_,g2,g1⟩;rw [← h1];exact h2
theorem Avr {a b c:Int}:q93_.C [a,b,c] (if a=0 then (if b=0 then c else b) else a):=by
 obtain ⟨r,h1,h2⟩:=q93_.enter [a,b,c] (fun r=>r=if a=0 then (if b=0 then c else b) else a) (by
  have e0:IntKind.wrap .i64 ((0:Int)+1)=1:=by decide
  have e1:IntKind.wrap .i64 ((1:Int)+1)=2:=by decide
  have e2:IntKind.wrap .i64 ((2:Int)+1)=3:=by decide
  apply q93_.L1_step;rw [if_pos (by simp)];refine ⟨a,rfl,?_⟩;by_cases ha:a=0
  ·rw [if_pos ha,if_pos ha,e0];apply q93_.L1_step;rw [if_pos (by simp)];refine ⟨b,rfl,?_⟩;by_cases hb:b=0
   ·rw [if_pos hb,if_pos hb,e1];apply q93_.L1_step;rw [if_pos (by simp)];refine ⟨c,rfl,?_⟩;by_cases hc:c=0
    ·rw [if_pos hc,e2];apply q93_.L1_step;rw [if_neg (by simp)];exact hc.symm
    ·rw [if_neg hc]
   ·rw [if_neg hb,if_neg hb]
  ·rw [if_neg ha,if_neg ha])
 rw [← h1];exact h2
theorem q80_.spec {a b:api_Value}:q80_.C a b (cmpV a b):=by
 obtain ⟨r,h1,h2⟩:=q80_.enter a b (fun r=>r=cmpV a b) ⟨_,Avq,_,Alx,_,q65_.spec,_,Avr,by
  unfold cmpV;rfl⟩
 rw [← h1];exact h2
def ofV (c:Nat):api_Value:=
 match c % 12 with
 | 0=>⟨1,0,⟨#[]⟩⟩
 | 1=>⟨1,1,⟨#[]⟩⟩
 | 2=>⟨1,2,⟨#[]⟩⟩
 | 3=>⟨0,0,⟨#[]⟩⟩
 | 4=>⟨2,0,⟨#[97]⟩⟩
 | 5=>⟨2,0,⟨#[98]⟩⟩
 | 6=>⟨2,0,⟨#[]⟩⟩
 | 7=>⟨3,1,⟨#[]⟩⟩
 | 8=>⟨1,-1,⟨#[]⟩⟩
 | 9=>⟨2,0,⟨#[97,98]⟩⟩
 | 10=>⟨3,2,⟨#[]⟩⟩
 | _=>⟨1,7,⟨#[]⟩⟩
theorem Azo (c:Nat):Ac5 (ofV c)=true/\Bbg (ofV c):=by
 have e1:((⟨#[97]⟩:ByteArray)).toList=[97]:=Ank (l:=[97]);have e2:((⟨#[98]⟩:ByteArray)).toList=[98]:=Ank (l:=[98]);have e3:((⟨#[97,98]⟩:ByteArray)).toList=[97,98]:=Ank (l:=[97,98]);unfold ofV Bbg Ac5
 split<;>simp [Au5,e1,e2,e3]
namespace q81_
theorem spec (c:Nat):C c (ofV c):=by
 obtain ⟨r,h1,h2⟩:=enter c (fun r=>r=ofV c) (by
  have e:Int.tmod (c:Int) 12=((c % 12:Nat):Int):=rfl;rw [e];unfold ofV;have hc:c % 12<12:=Nat.mod_lt _ (by decide);generalize c % 12=m at hc
  match m,hc with
  | 0,_=>rfl
  | 1,_=>rfl
  | 2,_=>rfl
  | 3,_=>rfl
  | 4,_=>rfl
  | 5,_=>rfl
  | 6,_=>rfl
  | 7,_=>rfl
  | 8,_=>rfl
  | 9,_=>rfl
  | 10,_=>rfl
  | 11,_=>rfl)
 rw [← h1];exact h2
end q81_
def Aim:List ByteArray:=[⟨#[97]⟩,⟨#[98]⟩,⟨#[99]⟩,⟨#[100]⟩,⟨#[101]⟩,⟨#[102]⟩,⟨#[103]⟩,⟨#[104]⟩]
structure RecOK (x:drossref03_Recipe):Prop where
 at_:0<=x.Attrs/\x.Attrs<256
 gap:0<=x.Gap/\x.Gap<256
 code:∀ r∈x.Rows,∀ c∈r,0<=c/\c<256
def Amd (r:List Int) (k:Nat):Nat:=((r[k]?).getD 0).toNat
def Adg (r:List Int) (n:Nat):List api_Value:=(List.range n).map fun k=>ofV (Amd r k)
def Adr (x:drossref03_Recipe) (n:Nat):api_Table:=⟨⟨#[114]⟩,Aim.take n,x.Rows.zipIdx.map fun p=>⟨1+(p.2:Int)*(1+x.Gap % 3),Adg p.1 n⟩⟩
namespace q66_
theorem inner {x:drossref03_Recipe} {n:Nat} {φ:api_Table->Prop} {acc:List api_Row} {i:Nat} {id:Int} {r:List Int} (hn:n<=8) (hx:RecOK x) (hr:x.Rows[i]? = some r) (hi:i<10000) (hacc:acc.length<=10000)
  (h:L1 x n (acc++[⟨id,Adg r n⟩]) ((i+1:Nat):Int) φ):∀ k,k<=n->L2 x n acc i id (Adg r k) k φ:=by
 refine down ?_ ?_
 ·apply L2_step;rw [if_neg (by omega),Aa6 (by omega)];exact ⟨by omega,h⟩
 ·intro k hk h;apply L2_step;rw [if_pos (by omega)];have e:Adg r (k+1)=Adg r k++[ofV (Amd r k)]:=by simp [Adg,List.range_succ]
  rw [e] at h;have next:∀ c:Int,c=(Amd r k:Int)->L3 x n acc i id (Adg r k) k c φ:=by
   rintro _ rfl;apply L3_step;refine ⟨_,q81_.spec _,by simp [Adg];omega,?_⟩;rw [Aa6 (by omega)];exact h
  refine ⟨r,Aap hr,?_⟩
  split
  ·rename_i hlt;have hlt:k<r.length:=by omega
   have hg:=List.getElem?_eq_getElem hlt;refine ⟨r[k],Aap hg,next _ ?_⟩;have:=hx.code r (List.mem_of_getElem? hr) r[k] (List.getElem_mem hlt);unfold Amd;rw [hg];simp;omega
  ·rename_i hlt;refine next _ ?_;unfold Amd;rw [List.getElem?_eq_none (by omega)];rfl
theorem spec {x:drossref03_Recipe} {n:Nat} (hn:n<=8) (hx:RecOK x) (hr:x.Rows.length<=10000):C x n (Adr x n):=by
 obtain ⟨r,h1,h2⟩:=enter x n (fun r=>r=Adr x n) (by
  refine ⟨by omega,by simp;omega,by simp;omega,by simp;omega,?_⟩;have loop:∀ i,i<=x.Rows.length->L1 x n ((x.Rows.zipIdx.take i).map fun p=>(⟨1+(p.2:Int)*(1+x.Gap % 3),Adg p.1 n⟩:api_Row)) i fun r=>r=Adr x n:=by
   refine down ?_ ?_
   ·apply L1_step;rw [if_neg (by omega),List.take_of_length_le (l:=x.Rows.zipIdx) (by simp)];simp only [Int.toNat_natCast,Nat.sub_zero,List.drop_zero];rfl
   ·intro i hi h;apply L1_step;rw [if_pos (by omega)];have hg:=List.getElem?_eq_getElem hi;generalize x.Rows[i]=row at hg;have hg2:x.Rows.zipIdx[i]? = some (row,i):=by rw [List.getElem?_zipIdx,hg];simp
    rw [List.take_add_one,hg2] at h;have g:=hx.gap;have e0:Int.tmod x.Gap 3=x.Gap % 3:=by rw [Int.tmod_eq_emod_of_nonneg g.1]
    have hp:0<=(i:Int)*(1+x.Gap % 3)/\(i:Int)*(1+x.Gap % 3)<=30000:=by
     have h3:x.Gap % 3=0∨x.Gap % 3=1∨x.Gap % 3=2:=by omega
     rcases h3 with h | h | h<;>rw [h]<;>omega
    rw [e0,Abw (x:=x.Gap % 3) (by omega) (by omega),Abw (x:=1+x.Gap % 3) (by omega) (by omega),Abw (x:=(i:Int)*(1+x.Gap % 3)) (by omega) (by omega),Abw (x:=1+(i:Int)*(1+x.Gap % 3)) (by omega) (by omega)];refine inner (r:=row) hn hx hg (by omega) (by simp;omega) ?_ 0 (Nat.zero_le _);simpa using h
  have:=loop 0 (Nat.zero_le _)
  simpa using this)
 rw [← h1];exact h2
end q66_
def tabF (x:drossref03_Recipe) (most:Nat):api_Table×Bool:=if x.Rows.length<=most then (Adr x (x.Attrs % 6).toNat,true) else (⟨⟨#[]⟩,[],[]⟩,false)
theorem q53_.spec {x:drossref03_Recipe} {most:Nat} (hm:most<=10000) (hx:RecOK x):q53_.C x most (tabF x most):=by
 obtain ⟨r,h1,h2⟩:=q53_.enter x most (fun r=>r=tabF x most) (by
  unfold tabF
  split
  ·rw [if_neg (by omega)]
  ·rw [if_pos (by omega)];have:=hx.at_;have e:IntKind.wrap .i64 (Int.tmod x.Attrs 6)=(((x.Attrs % 6).toNat:Nat):Int):=by
    rw [Int.tmod_eq_emod_of_nonneg this.1,Abw (by omega) (by omega)];omega
   rw [e]
   exact ⟨_,q66_.spec (by omega) hx (by omega),rfl⟩)
 rw [← h1];exact h2
theorem Bbl {b:UInt8} (h:letB (u8i b)=true):Ah9 ⟨#[b]⟩=true:=by
 have e:((⟨#[b]⟩:ByteArray)).toList=[b]:=Ank (l:=[b]);unfold Ah9;rw [e];simp [Acs,h,Aqm]
theorem Azn:∀ n,n<=8->Afl (Aim.take n)=true:=by
 have hn:∀ b:UInt8,letB (u8i b)=true->Ah9 ⟨#[b]⟩=true:=fun b h=>Bbl h;have hne:∀ a b:UInt8,a≠b->eqS ⟨#[a]⟩ ⟨#[b]⟩=false:=by
  intro a b h;unfold eqS;rw [decide_eq_false_iff_not];intro e;have:=congrArg (fun x:ByteArray=>x.data.toList) e;simp at this;exact h this.symm
 intro n hn8;have key:Afl Aim=true:=by
  unfold Afl Aim;simp only [Afc,List.nil_append,List.cons_append,List.any_nil,List.any_cons];rw [hn 97 (by decide),hn 98 (by decide),hn 99 (by decide),hn 100 (by decide),hn 101 (by decide),hn 102 (by decide),hn 103 (by decide),hn 104 (by decide)];simp [hne]
 have pre:∀ (l pre:List ByteArray) (m:Nat),Afc pre l=true->Afc pre (l.take m)=true:=by
  intro l
  induction l with
  | nil=>intro pre m h;simpa using h
  | cons a l ih=>
   intro pre m h;cases m with
   | zero=>rfl
   | succ m=>
    simp only [List.take_succ_cons,Afc,Bool.and_eq_true] at h ⊢;exact ⟨h.1,ih _ _ h.2⟩
 exact pre _ _ _ key
theorem Aqv {n:Nat} {g:Int} (hg:0<=g):∀ (l:List (List Int)) (i:Nat) (last:Int),last<1+(i:Int)*(1+g)->Ada n last ((l.zipIdx i).map fun p=>(⟨1+(p.2:Int)*(1+g),Adg p.1 n⟩:api_Row))=0
 | [],_,_,_=>rfl
 | r::l,i,last,h=>by
  simp only [List.zipIdx_cons,List.map_cons,Ada];rw [if_neg (by omega),if_pos (by simp [Adg]),if_pos]
  ·refine Aqv hg l (i+1) _ ?_;have:((i+1:Nat):Int)*(1+g)=(i:Int)*(1+g)+(1+g):=by rw [Int.natCast_add,Int.add_mul];simp
   omega
  ·unfold Aem Adg;rw [List.all_eq_true];intro v hv;obtain ⟨k,_,rfl⟩:=List.mem_map.1 hv;exact (Azo _).1
theorem Ayj {x:drossref03_Recipe} {n:Nat} (hn:n<=8) (hx:RecOK x) (hr:x.Rows.length<=1000):TV (Adr x n):=by
 have hl:(Aim.take n).length=n:=by simp [Aim];omega
 refine ⟨Bbl (by decide),by simp only [Adr,hl];omega,by simp [Adr];omega,Azn n hn,?_⟩;simp only [Adr,hl];have g:=hx.gap;exact Aqv (by omega) x.Rows 0 0 (by omega)
theorem Ayi {x:drossref03_Recipe} {n:Nat} (hn:n<=8):(Adr x n).Attrs.length=n:=by simp [Adr,Aim];omega
abbrev nI (l:List Nat):List Int:=l.map fun (j:Nat)=>(j:Int)
theorem Af2 {X:List Nat} {k j:Nat} (h:X[k]? = some j):(nI X)[k]? = some (j:Int):=by rw [List.getElem?_map,h];rfl
def vAt (r:api_Row) (i:Nat):api_Value:=(r.Values[i]?).getD ⟨0,0,⟨#[]⟩⟩
theorem Ah0 {r:api_Row} {i:Nat} (h:i<r.Values.length):r.Values[i]? = some (vAt r i):=by
 unfold vAt;rw [List.getElem?_eq_getElem h];rfl
def cmpA (r s:api_Row) (i:Nat):Int:=cmpV (vAt r i) (vAt s i)
theorem Al5 {a b:Int} : -1<=cmpI a b/\cmpI a b<=1:=by
 unfold cmpI
 split
 ·omega
 ·split<;>omega
theorem Apt:∀ {a b:List UInt8},-1<=cmpL a b/\cmpL a b<=1
 | [],[]=>by simp [cmpL]
 | [],_::_=>by simp [cmpL]
 | _::_,[]=>by simp [cmpL]
 | x::a,y::b=>by
  rw [cmpL]
  split
  ·exact Apt
  ·exact Al5
theorem Axb {v w:api_Value} : -1<=cmpV v w/\cmpV v w<=1:=by
 unfold cmpV
 split
 ·split
  ·exact Apt
  ·exact Al5
 ·exact Al5
theorem Ahl {r s:api_Row}:∀ {l:List Nat},-1<=lexO cmpA r s l/\lexO cmpA r s l<=1
 | []=>by simp [lexO]
 | a::l=>by
  rw [lexO]
  split
  ·exact Ahl
  ·exact Axb
theorem Azl {x y:Int} (hx : -1<=x/\x<=1) (hy : -1<=y/\y<=1):IntKind.wrap .i64 (x*y)=x*y:=by
 have:x = -1∨x=0∨x=1:=by omega
 refine Abw ?_ ?_<;>rcases this with rfl | rfl | rfl<;>omega
theorem q54_.spec {a b:api_Row} {X:List Nat} (ha:∀ i∈X,i<a.Values.length) (hb:∀ i∈X,i<b.Values.length) (hX:X.length<1000):q54_.C a b (nI X) (lexO cmpA a b X):=by
 obtain ⟨r,h1,h2⟩:=q54_.enter a b (nI X) (fun r=>r=lexO cmpA a b X) (by
  have:∀ (r:List Nat) (k:Nat),X.drop k=r->lexO cmpA a b r=lexO cmpA a b X->q54_.L1 a b (nI X) k (fun r=>r=lexO cmpA a b X):=by
   intro r
   induction r with
   | nil=>
    intro k hd he;apply q54_.L1_step;have:=Abg hd;rw [if_neg (by simp;omega)];exact he
   | cons i r ih=>
    intro k hd he;have hlt:=Abh hd;have hk:=Aas hd;have him:=List.mem_of_getElem? hk;apply q54_.L1_step;rw [if_pos (by simp;omega)];refine ⟨i,Aap (Af2 hk),_,Aap (Ah0 (ha i him)),_,Aap (Ah0 (hb i him)),_,q80_.spec,?_⟩;rw [lexO] at he;by_cases h0:cmpA a b i=0
    ·rw [if_pos h0] at he;rw [if_pos (show cmpV (vAt a i) (vAt b i)=0 from h0),Aa6 (by omega)];exact ih _ (Aah hd) he
    ·rw [if_neg h0] at he;rw [if_neg (show ¬ cmpV (vAt a i) (vAt b i)=0 from h0)];exact he
  exact this X 0 rfl rfl)
 rw [← h1];exact h2
def Ala (a b:api_Row) (X Y:List Nat):Prop:=(lexO cmpA a b X=0->lexO cmpA a b Y=0)/\¬ lexO cmpA a b X*lexO cmpA a b Y<0
theorem q82_.spec {a b:api_Row} {X Y:List Nat} (ha:∀ i∈X++Y,i<a.Values.length) (hb:∀ i∈X++Y,i<b.Values.length) (hX:X.length<1000) (hY:Y.length<1000):∃ k,q82_.C a b ⟨nI X,nI Y⟩ k/\(k=0↔Ala a b X Y):=by
 obtain ⟨r,h1,h2⟩:=q82_.enter a b ⟨nI X,nI Y⟩ (fun k=>k=0↔Ala a b X Y) (by
  refine ⟨_,q54_.spec (fun i hi=>ha i (by simp [hi])) (fun i hi=>hb i (by simp [hi])) hX,_,q54_.spec (fun i hi=>ha i (by simp [hi])) (fun i hi=>hb i (by simp [hi])) hY,?_⟩;have last:(lexO cmpA a b X=0->lexO cmpA a b Y=0)->q82_.L1 (lexO cmpA a b X) (lexO cmpA a b Y) fun k=>k=0↔Ala a b X Y:=fun h=>by
   apply q82_.L1_step;rw [Azl Ahl Ahl];unfold Ala
   split
   ·rename_i hl;simp [hl]
   ·rename_i hl;simp only [true_iff];exact ⟨h,hl⟩
  split
  ·rename_i hx
   split
   ·rename_i hy;exact last fun _=>hy
   ·rename_i hy;unfold Ala;simp only [show ¬ ((1:Int)=0) by decide,false_iff];exact fun h=>hy (h.1 hx)
  ·rename_i hx
   exact last fun h=>absurd h hx)
 exact ⟨r,h2,h1⟩
theorem q25_.ok {X:List Nat} {n:Nat} (h:∀ i∈X,i<n) (hX:X.length<1000):q25_.C (nI X) n (-1):=by
 obtain ⟨r,h1,h2⟩:=q25_.enter (nI X) n (fun r=>r = -1) (by
  have:∀ k,k<=X.length->q25_.L1 (nI X) n k (fun r=>r = -1):=by
   refine down ?_ ?_
   ·apply q25_.L1_step;rw [if_neg (by simp)]
   ·intro k hk h';have hk':=List.getElem?_eq_getElem hk;have hin:=h _ (List.mem_of_getElem? hk');apply q25_.L1_step;rw [if_pos (by simp;omega)];obtain ⟨q,q1,q2⟩:=q67_.enter ((X[k]:Nat):Int) n (fun q=>q=false) (by
     rw [if_neg (by omega)]
     simp;omega)
    subst q1;refine ⟨_,Aap (Af2 hk'),_,q2,?_⟩;rw [if_neg (by decide),Aa6 (by omega)];exact h'
  exact this 0 (Nat.zero_le _))
 rw [← h1];exact h2
theorem q83_.ok {X:List Nat} {n:Nat} (h:∀ i∈X,i<n) (hX:X.length<=8):q83_.C n (nI X) true:=by
 obtain ⟨q,q1,q2⟩:=q23_.enter (nI X) n (fun q=>q=false) ⟨_,q25_.ok h (by omega),by simp⟩;subst q1;obtain ⟨r,h1,h2⟩:=q83_.enter n (nI X) (fun r=>r=true) (by
  rw [if_pos (by simp;omega)]
  exact ⟨_,q2,rfl⟩)
 rw [← h1];exact h2
theorem q71_.ok {X Y:List Nat} {n:Nat} (hx:∀ i∈X,i<n) (hX:X.length<=8) (hy:∀ i∈Y,i<n) (hY:Y.length<=8):q71_.C n ⟨nI X,nI Y⟩ true:=by
 obtain ⟨r,h1,h2⟩:=q71_.enter n ⟨nI X,nI Y⟩ (fun r=>r=true) ⟨_,q83_.ok hx hX,by rw [if_pos rfl];exact ⟨_,q83_.ok hy hY,rfl⟩⟩;rw [← h1];exact h2
theorem Azm {X:List Nat} {a:Nat}:(a:Int)∈nI X↔a∈X:=by
 rw [List.mem_map];constructor
 ·rintro ⟨b,hb,e⟩;rw [show a=b by omega];exact hb
 ·exact fun h=>⟨a,h,rfl⟩
theorem q33_.spec {l:List Int} {a:Int} (hl:l.length<1000):q33_.C l a (decide (a∈l)):=by
 have hi:q38_.C l a (ixI (fun b=>decide (a=b)) l):=by
  obtain ⟨r,h1,h2⟩:=q38_.enter l a (fun r=>r=ixI (fun b=>decide (a=b)) l) (by
   refine Alf (l:=l) (p:=fun b=>decide (a=b)) (L:=fun i=>q38_.L1 l a i _) (φ:=fun r=>r=ixI (fun b=>decide (a=b)) l) ?_ ?_ rfl
   ·intro h;apply q38_.L1_step;rw [if_neg (by omega)];exact h
   ·intro k b hb hk h;apply q38_.L1_step;rw [if_pos (by omega)];refine ⟨b,Aap hb,?_⟩;rw [Aa6 (by omega)]
    split
    ·rename_i hh;rw [if_pos (by simpa using hh)] at h;exact h
    ·rename_i hh;rw [if_neg (by simpa using hh)] at h;exact h)
  rw [← h1];exact h2
 obtain ⟨r,h1,h2⟩:=q33_.enter l a (fun r=>r=decide (a∈l)) ⟨_,hi,by
  rw [Arl,Bool.eq_iff_iff,List.any_eq_true,decide_eq_true_eq];constructor
  ·rintro ⟨b,hb,e⟩;rw [of_decide_eq_true e];exact hb
  ·exact fun h=>⟨a,h,by simp⟩⟩
 rw [← h1];exact h2
theorem Ain:∀ {l out:List Nat},(Ab2 out l).length<=out.length+l.length
 | [],out=>by simp [Ab2]
 | a::l,out=>by
  rw [Ab2];have:=Ain (l:=l) (out:=if a∈out then out else out++[a]);refine Nat.le_trans this ?_
  split<;>simp<;>omega
theorem q84_.spec {X:List Nat} (hX:X.length<=100):q84_.C (nI X) (nI (Ab2 [] X)):=by
 obtain ⟨r,h1,h2⟩:=q84_.enter (nI X) (fun r=>r=nI (Ab2 [] X)) (by
  have:∀ (r:List Nat) (k:Nat) (out:List Nat),X.drop k=r->out.length<=k->Ab2 out r=Ab2 [] X->q84_.L1 (nI X) (nI out) k (fun r=>r=nI (Ab2 [] X)):=by
   intro r
   induction r with
   | nil=>
    intro k out hd ho he;apply q84_.L1_step;have:=Abg hd;rw [if_neg (by simp;omega)];rw [← he];rfl
   | cons a r ih=>
    intro k out hd ho he;have hlt:=Abh hd;apply q84_.L1_step;rw [if_pos (by simp;omega)];refine ⟨a,Aap (Af2 (Aas hd)),_,q33_.spec (by simp;omega),?_⟩;rw [Ab2] at he;have next:∀ out',out'=(if a∈out then out else out++[a])->q84_.L2 (nI X) (nI out') k fun r=>r=nI (Ab2 [] X):=by
     rintro _ rfl;apply q84_.L2_step;rw [Aa6 (by omega)];refine ih _ _ (Aah hd) ?_ he
     split
     ·omega
     ·simp;omega
    by_cases hin:a∈out
    ·rw [if_pos (decide_eq_true (Azm.2 hin))];exact next _ (by rw [if_pos hin])
    ·rw [if_neg (by rw [decide_eq_true_eq,Azm];exact hin)];refine ⟨by simp;omega,?_⟩;have:=next (out++[a]) (by rw [if_neg hin]);simpa [nI] using this
  exact this X 0 [] rfl (by simp) rfl)
 rw [← h1];exact h2
def memN (n:Nat) (l:List Int):List Nat:=if n=0 then [] else (l.take 5).map fun x=>(x % (n:Int)).toNat
theorem Auw {n:Nat} {l:List Int}:(memN n l).length<=5:=by
 unfold memN;split
 ·simp
 ·simp;omega
theorem Awn {n:Nat} {l:List Int}:∀ i∈memN n l,i<n:=by
 intro i hi;unfold memN at hi
 split at hi
 ·cases hi
 ·rename_i hn;obtain ⟨x,_,rfl⟩:=List.mem_map.1 hi;have:=Int.emod_lt_of_pos x (b:=(n:Int)) (by omega);have:=Int.emod_nonneg x (b:=(n:Int)) (by omega);omega
theorem q45_.spec {n:Nat} {l:List Int} (hl:∀ x∈l,0<=x/\x<256) (hn:n<1000):q45_.C n l (nI (memN n l)):=by
 obtain ⟨r,h1,h2⟩:=q45_.enter n l (fun r=>r=nI (memN n l)) (by
  by_cases h0:n=0
  ·subst h0;apply q45_.L1_step;have e:nI (memN 0 l)=[]:=by simp [memN]
   rw [e]
   split
   ·split
    ·rw [if_neg (by omega)]
    ·rfl
   ·rfl
  have e:nI (memN n l)=(l.take 5).map fun x=>x % (n:Int):=by
   unfold memN nI;rw [if_neg h0,List.map_map];refine List.map_congr_left fun x _=>?_;have:=Int.emod_nonneg x (b:=(n:Int)) (by omega);simp only [Function.comp];omega
  rw [e];have:∀ (d k:Nat),d+k=min l.length 5->q45_.L1 n l ((l.take k).map fun x=>x % (n:Int)) k (fun r=>r=(l.take 5).map fun x=>x % (n:Int)):=by
   intro d
   induction d with
   | zero=>
    intro k hk;apply q45_.L1_step;have hfin:((l.take k).map fun x=>x % (n:Int))=(l.take 5).map fun x=>x % (n:Int):=by
     congr 1;rcases Nat.le_total l.length 5 with h | h
     ·rw [List.take_of_length_le (by omega),List.take_of_length_le h]
     ·congr 1;omega
    split
    ·split
     ·omega
     ·exact hfin
    ·exact hfin
   | succ d ih=>
    intro k hk;have hlt:k<l.length:=by omega
    have hg:=List.getElem?_eq_getElem hlt;have hb:=hl _ (List.mem_of_getElem? hg);apply q45_.L1_step;rw [if_pos (by omega),if_pos (by omega),if_pos (by omega)];refine ⟨_,Aap hg,by omega,by simp;omega,?_⟩;rw [Aa6 (by omega),Abw (by omega) (by omega),Int.tmod_eq_emod_of_nonneg hb.1];have:=ih (k+1) (by omega);rw [List.take_add_one,hg,List.map_append] at this;exact this
  have:=this (min l.length 5) 0 (by omega)
  simpa using this)
 rw [← h1];exact h2
theorem q85_.spec {n:Nat} {x:drossref17_Lists} (hX:∀ c∈x.X,0<=c/\c<256) (hY:∀ c∈x.Y,0<=c/\c<256) (hn:n<1000):q85_.C n x ⟨nI (memN n x.X),nI (memN n x.Y)⟩:=by
 obtain ⟨r,h1,h2⟩:=q85_.enter n x (fun r=>r=⟨nI (memN n x.X),nI (memN n x.Y)⟩) ⟨_,q45_.spec hX hn,_,q45_.spec hY hn,rfl⟩;rw [← h1];exact h2
def EqA (t:api_Table) (i k a:Nat):Prop:=(t.Rows[i]?.map fun r=>r.Values[a]?)=(t.Rows[k]?.map fun r=>r.Values[a]?)
instance (t:api_Table) (i k a:Nat):Decidable (EqA t i k a):=by unfold EqA;infer_instance
theorem Ale {n:Nat}:∀ {l:List api_Row} {last:Int},Ada n last l=0->l.Pairwise (fun a b=>a.ID<b.ID)
 | [],_,_=>.nil
 | r::l,last,h=>by
  have h':Ada n r.ID l=0:=by
   simp only [Ada] at h
   split at h
   ·cases h
   ·split at h
    ·split at h
     ·exact h
     ·cases h
    ·cases h
  exact .cons (fun x hx=>(Amy h' x hx).2.2) (Ale h')
def Pr {ρ:Type} (rows:List ρ) (a b:ρ):Prop:=∃ i k:Nat,i<k/\rows[i]? = some a/\rows[k]? = some b
section
variable {t:api_Table} {X Y:List Nat} (hT:TV t) (hx:∀ i∈X,i<t.Attrs.length) (hX:X.length<=8) (hy:∀ i∈Y,i<t.Attrs.length) (hY:Y.length<=8)
include hT hx hX hy hY
omit hX hY in
theorem Ayz {a:api_Row} (ha:a∈t.Rows):∀ i∈X++Y,i<a.Values.length:=fun i hi=>by
 rw [hT.len ha];rcases List.mem_append.1 hi with h | h
 ·exact hx i h
 ·exact hy i h
end
theorem Amc {a b:Int}:cmpI b a = -cmpI a b:=by
 unfold cmpI
 repeat' split
 all_goals omega
theorem As8:∀ {a b:List UInt8},cmpL b a = -cmpL a b
 | [],[]=>rfl
 | [],_::_=>rfl
 | _::_,[]=>rfl
 | a::r,b::s=>by
  simp only [cmpL];by_cases h:a=b
  ·rw [if_pos h,if_pos h.symm];exact As8
  ·rw [if_neg h,if_neg (fun e=>h e.symm)];exact Amc
theorem Asa {v w:api_Value}:cmpV w v = -cmpV v w:=by
 unfold cmpV cmpS;by_cases h1:v.Kind=w.Kind
 ·rw [if_pos (Aby.2 h1.symm),if_pos (Aby.2 h1)];by_cases h2:v.Num=w.Num
  ·rw [if_pos (Aby.2 h2.symm),if_pos (Aby.2 h2)];exact As8
  ·rw [if_neg (fun h=>h2 (Aby.1 h).symm),if_neg (fun h=>h2 (Aby.1 h))];exact Amc
 ·rw [if_neg (fun h=>h1 (Aby.1 h).symm),if_neg (fun h=>h1 (Aby.1 h))];exact Amc
end Go.Own
