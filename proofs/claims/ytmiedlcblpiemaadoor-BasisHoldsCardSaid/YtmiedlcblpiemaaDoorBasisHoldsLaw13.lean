/- What the functions answer. No conditions. -/
import Derived.Test.YtmiedlcblpiemaaDoorBasisHoldsLaw8
import Derived.Test.YtmiedlcblpiemaaDoorBasisHoldsLaw10
import Derived.Test.YtmiedlcblpiemaaDoorBasisHoldsLaw1
set_option linter.all false
namespace Go.Own
def letB (x:Int):Bool:=decide (97<=x/\x<=122∨65<=x/\x<=90∨x=95)
def alnB (x:Int):Bool:=letB x || decide (48<=x/\x<=57)
def Ap7:List UInt8:=[110,117,108,108]
theorem Ava:((⟨#[110,117,108,108]⟩:ByteArray)).toList=Ap7:=Avt (l:=Ap7)
theorem Axf:((⟨#[]⟩:ByteArray)).toList=[]:=Avt (l:=[])
def Ab4:List UInt8->Bool
 | []=>false
 | b::r=>decide (r.length<24)&&letB (u8i b)&&!decide (b::r=Ap7)&&r.all fun b=>alnB (u8i b)
def Agc (s:ByteArray):Bool:=Ab4 s.toList
namespace q29_
theorem spec {x : Int} : C x (letB x) := by
  obtain ⟨r, h1, h2⟩ := enter x (fun r => r = letB x) (by
    unfold letB
    repeat' split
    all_goals first
      | (symm; rw [decide_eq_true_iff]; omega)
      | (by_cases h : x = 95
         · simp [h]
         · have : (x == 95) = false := by simpa using h
           rw [this]; symm; rw [decide_eq_false_iff_not]; omega))
  rw [← h1]; exact h2
end q29_
theorem Asu {φ:Bool->Prop} {P:Prop} {x:Int} (h:if alnB x=true then P else φ false) (hl:¬ letB x=true):if x<48 then φ false else if 57<x then φ false else P:=by
 have e:alnB x=decide (48<=x/\x<=57):=by unfold alnB;rw [Bool.eq_false_iff.2 hl,Bool.false_or]
 rw [e] at h
 repeat' split
 ·rw [if_neg (by rw [decide_eq_true_iff];omega)] at h;exact h
 ·rw [if_neg (by rw [decide_eq_true_iff];omega)] at h;exact h
 ·rw [if_pos (by rw [decide_eq_true_iff];omega)] at h;exact h
namespace q41_
theorem spec {s:ByteArray}:C s (Agc s):=by
 obtain ⟨r,h1,h2⟩:=enter s (fun r=>r=Agc s) (by
  unfold Agc;rw [Abq,Ava];cases hs:s.toList with
  | nil=>simp [Ab4]
  | cons b t=>
   rw [if_neg (by simp;omega)]
   split
   ·rename_i hn;have hn:24<=t.length:=by simp at hn;omega
    simp [Ab4];omega
   ·rename_i hn;have hn:t.length<24:=by simp at hn;omega
    refine ⟨b,Ad0 (by rw [hs];rfl),letB (u8i b),q29_.spec,?_⟩
    split
    ·rename_i hb
     split
     ·rename_i h0;simp [Ab4,Ap7,h0]
     ·rename_i h0;refine Ang (l:=s.toList) (p:=fun b=>alnB (u8i b)) (L:=fun i=>L1 s i fun r=>r=Ab4 (b::t)) (φ:=fun r=>r=Ab4 (b::t)) ?_ ?_ ?_
      ·intro h;apply L1_step;rw [Abq,if_neg (by omega)];exact h
      ·intro k c hc hk h;apply L1_step;rw [Abq,if_pos (by omega)];have next:L1 s ((k+1:Nat):Int) (fun r=>r=Ab4 (b::t))->L2 s k fun r=>r=Ab4 (b::t):=fun h=>by
        apply L2_step;have hsl:s.toList.length=(b::t).length:=by rw [hs]
        simp at hsl;rw [Aat (by omega)];exact h
       refine ⟨c,Ad0 hc,_,q29_.spec,?_⟩
       split
       ·rename_i hl;rw [if_pos (by unfold alnB;rw [hl];rfl)] at h;exact next h
       ·rename_i hl;have h3:=Asu (φ:=fun r=>r=Ab4 (b::t)) (P:=L2 s k fun r=>r=Ab4 (b::t)) (by
         split
         ·rename_i hh;rw [if_pos hh] at h;exact next h
         ·rename_i hh;rw [if_neg hh] at h;exact h) hl
        refine ⟨c,Ad0 hc,?_⟩
        split
        ·rename_i h4;rw [if_pos h4] at h3;exact h3
        ·rename_i h4;rw [if_neg h4] at h3;exact ⟨c,Ad0 hc,h3⟩
      ·rw [hs];have e:alnB (u8i b)=true:=by unfold alnB;rw [hb];rfl
       simp only [List.all_cons,e,Bool.true_and,Ab4,hb,h0,decide_false,Bool.not_false,Bool.and_true];simp [hn]
    ·rename_i hb
     simp [Ab4,hb])
 rw [← h1];exact h2
end q41_
namespace q55_
theorem two {s:ByteArray} {i:Int} {φ:Bool->Prop} {x:Int} (h:if letB x=true then L3 s i φ else if i=0 then φ false else if x<48 then φ false else if 57<x then φ false else L3 s i φ):L2 s i x (letB x) φ:=by
 apply L2_step;exact h
theorem spec {s : ByteArray} : C s (Agc s) := by
  obtain ⟨r, h1, h2⟩ := enter s (fun r => r = Agc s) (by
    unfold Agc;rw [Abq, Ava, Axf];cases hs : s.toList with
    | nil => simp [Ab4]
    | cons b t =>
      rw [if_neg (by simp)]
      split
      · rename_i hn
        have hn : 24 <= t.length := by simp at hn; omega
        simp [Ab4]; omega
      · rename_i hn
        have hn : t.length < 24 := by simp at hn; omega
        have hlen : s.toList.length = t.length + 1 := by rw [hs]; rfl
        split
        · rename_i h0
          simp [Ab4, Ap7, h0]
        · rename_i h0
          have body : ∀ (k : Nat) c, s.toList[k]? = some c -> (if letB (u8i c) = true then L1 s ((k + 1 : Nat) : Int) (fun r => r = Ab4 (b :: t)) else if (k : Int) = 0 then false = Ab4 (b :: t) else if (u8i c) < 48 then false = Ab4 (b :: t) else if 57 < (u8i c) then false = Ab4 (b :: t) else L1 s ((k + 1 : Nat) : Int) (fun r => r = Ab4 (b :: t))) -> L1 s k (fun r => r = Ab4 (b :: t)) := by
            intro k c hc h;have hk := (List.getElem?_eq_some_iff.1 hc).1;apply L1_step;rw [Abq, if_pos (by omega)];refine ⟨c, Ad0 hc, ?_⟩;have next : L1 s ((k + 1 : Nat) : Int) (fun r => r = Ab4 (b :: t)) -> L3 s k fun r => r = Ab4 (b :: t) := fun h => by
              apply L3_step;rw [Aat (by omega)];exact h
            have key : L2 s k (u8i c) (letB (u8i c)) fun r => r = Ab4 (b :: t) := by
              apply two
              split
              · rename_i hh; rw [if_pos hh] at h; exact next h
              · rename_i hh; rw [if_neg hh] at h
                split
                · rename_i h2; rw [if_pos h2] at h; exact h
                · rename_i h2; rw [if_neg h2] at h
                  split
                  · rename_i h3; rw [if_pos h3] at h; exact h
                  · rename_i h3; rw [if_neg h3] at h
                    split
                    · rename_i h4; rw [if_pos h4] at h; exact h
                    · rename_i h4; rw [if_neg h4] at h; exact next h
            have e : ∀ v, v = letB (u8i c) -> L2 s k (u8i c) v fun r => r = Ab4 (b :: t) := by rintro _ rfl; exact key
            repeat' split
            all_goals apply e
            all_goals unfold letB
            all_goals first
              | (symm; rw [decide_eq_true_iff]; omega)
              | (by_cases h : u8i c = 95
                 · simp [h]
                 · have : (u8i c == 95) = false := by simpa using h
                   rw [this]; symm; rw [decide_eq_false_iff_not]; omega)
          have h0s : s.toList[0]? = some b := by rw [hs]; rfl
          refine body 0 b h0s ?_
          split
          · rename_i hb
            have rest := Ang (l := t) (p := fun b => alnB (u8i b)) (L := fun i => L1 s (i + 1) fun r => r = Ab4 (b :: t)) (φ := fun r => r = Ab4 (b :: t)) ?_ ?_ ?_
            · simpa using rest
            · intro h
              apply L1_step;rw [Abq, if_neg (by omega)]; exact h
            · intro k c hc hk h
              have e1 : ((k : Nat) : Int) + 1 = ((k + 1 : Nat) : Int) := by omega
              rw [e1];refine body (k + 1) c (by rw [hs]; simpa using hc) ?_
              split
              · rename_i hl
                rw [if_pos (by unfold alnB; rw [hl]; rfl)] at h;exact h
              · rename_i hl
                rw [if_neg (by omega)];exact Asu (φ := fun r => r = Ab4 (b :: t)) h hl
            · simp [Ab4, hb, h0, hn]
          · rename_i hb
            simp [Ab4, hb])
  rw [← h1]; exact h2
end q55_
def eqS (x a:ByteArray):Bool:=decide (a=x)
def Aj8:List ByteArray->List ByteArray->Bool
 | _,[]=>true
 | pre,a::r=>Agc a&&!pre.any (eqS a)&&Aj8 (pre++[a]) r
def Aea (l:List ByteArray):Bool:=Aj8 [] l
namespace q18_
theorem spec {l:List ByteArray} {x:ByteArray} (hn:l.length<Big):C l x (ixI (eqS x) l):=by
 obtain ⟨r,h1,h2⟩:=enter l x (fun r=>r=ixI (eqS x) l) (by
  refine Ak0 (l:=l) (p:=eqS x) (L:=fun i=>L1 l x i _) (φ:=fun r=>r=ixI (eqS x) l) ?_ ?_ rfl
  ·intro h;apply L1_step;rw [if_neg (by omega)];exact h
  ·intro k a ha hk h;apply L1_step;rw [if_pos (by omega)];refine ⟨a,Acl ha,?_⟩;rw [Aat (by unfold Big at hn;omega)]
   split
   ·rename_i hh;rw [if_pos (by simp [eqS,Ahb.1 hh])] at h;exact h
   ·rename_i hh;rw [if_neg (by simp only [eqS,decide_eq_true_eq];rintro rfl;exact hh rfl)] at h;exact h)
 rw [← h1];exact h2
end q18_
theorem q17_.spec {l:List ByteArray} {x:ByteArray} (hn:l.length<Big):q17_.C l x (l.any (eqS x)):=by
 obtain ⟨r,h1,h2⟩:=q17_.enter l x (fun r=>r=l.any (eqS x)) ⟨_,q18_.spec hn,by rw [Aqb]⟩;rw [← h1];exact h2
namespace q42_
theorem spec {l:List ByteArray} {x:ByteArray} (hn:l.length<Big):C l x (ixI (eqS x) l):=by
 obtain ⟨r,h1,h2⟩:=enter l x (fun r=>r=ixI (eqS x) l) (by
  refine Ak0 (l:=l) (p:=eqS x) (L:=fun i=>L1 l x i _) (φ:=fun r=>r=ixI (eqS x) l) ?_ ?_ rfl
  ·intro h;apply L1_step;rw [if_neg (by omega)];exact h
  ·intro k a ha hk h;apply L1_step;rw [if_pos (by omega)];refine ⟨a,Acl ha,?_⟩;rw [Aat (by unfold Big at hn;omega)]
   split
   ·rename_i hh;rw [if_pos (by simp [eqS,Ahb.1 hh])] at h;exact h
   ·rename_i hh;rw [if_neg (by simp only [eqS,decide_eq_true_eq];rintro rfl;exact hh rfl)] at h;exact h)
 rw [← h1];exact h2
end q42_
theorem Ap4 {l : List ByteArray} {L : Int -> Prop} {P Q : Prop} (stop : P -> L (l.length : Int))
    (step : ∀ (k : Nat) a, l[k]? = some a -> k < l.length -> (if Agc a = true then (if (l.take k).any (eqS a) = true then Q else L ((k + 1 : Nat) : Int)) else Q) -> L k) (h : Aea l = true -> P) (h' : Aea l = false -> Q) : L 0 := by
  have : ∀ (r : List ByteArray) (k : Nat), l.drop k = r -> k <= l.length -> (Aj8 (l.take k) r = true -> P) -> (Aj8 (l.take k) r = false -> Q) -> L k := by
    intro r
    induction r with
    | nil => intro k hd hk h h'; have : k = l.length := by have := Aeg hd; omega
             subst this; exact stop (h rfl)
    | cons a r ih =>
      intro k hd hk h h';have hlt := Aeh hd;refine step k a (Abs hd) hlt ?_;have hn := ih (k + 1) (Acv hd) hlt;have e : l.take (k + 1) = l.take k ++ [a] := by rw [List.take_add_one, Abs hd]; rfl
      rw [e] at hn;simp only [Aj8] at h h'
      split
      · rename_i h1
        split
        · rename_i h2
          exact h' (by simp [h1, h2])
        · rename_i h2
          have h2 := Bool.eq_false_iff.2 h2;exact hn (fun hh => h (by simp [h1, h2, hh])) (fun hh => h' (by simp [h1, h2, hh]))
      · rename_i h1
        have h1 := Bool.eq_false_iff.2 h1;exact h' (by simp [h1])
  exact this l 0 rfl (Nat.zero_le _) h h'
theorem q34_.spec {l:List ByteArray} (hn:l.length<Big):q34_.C l (Aea l):=by
 obtain ⟨r,h1,h2⟩:=q34_.enter l (fun r=>r=Aea l) (by
  refine Ap4 (l:=l) (L:=fun i=>q34_.L1 l i _) (P:=true=Aea l) (Q:=false=Aea l) ?_ ?_ Eq.symm Eq.symm
  ·intro h;apply q34_.L1_step;rw [if_neg (by omega)];exact h
  ·intro k a ha hk h;apply q34_.L1_step;rw [if_pos (by omega)];refine ⟨a,Acl ha,_,q41_.spec,?_⟩
   split
   ·rename_i h1;rw [if_pos h1] at h;refine ⟨by omega,by omega,_,q42_.spec (by rw [List.length_take];omega),?_⟩;rw [Int.toNat_natCast,Nat.sub_zero,Aat (by unfold Big at hn;omega)];have e:(0<=ixI (eqS a) (l.take k))↔(l.take k).any (eqS a)=true:=by rw [← Aqb,decide_eq_true_iff]
    split
    ·rename_i h2;rw [if_pos (e.1 h2)] at h;exact h
    ·rename_i h2;rw [if_neg (fun hh=>h2 (e.2 hh))] at h;exact h
   ·rename_i h1;rw [if_neg h1] at h;exact h)
 rw [← h1];exact h2
def Aal (v:api_Value):Bool:=decide (v.Kind=0/\v.Num=0/\v.Str.toList=[]∨v.Kind=1/\v.Str.toList=[]∨v.Kind=2/\v.Num=0/\v.Str.toList.length<=200∨v.Kind=3/\1<=v.Num/\v.Str.toList=[])
theorem App {v : api_Value} {φ : Bool -> Prop} (h : φ (Aal v)) : (if v.Kind = 0 then (if v.Num = 0 then φ ((v.Str.toList == ((⟨#[]⟩ : ByteArray)).toList)) else φ false) else (if v.Kind = 1 then φ ((v.Str.toList == ((⟨#[]⟩ : ByteArray)).toList)) else (if v.Kind = 2 then (if v.Num = 0 then φ ((decide ((Acf v.Str) <= 200))) else φ false) else (if v.Kind = 3 then (if 1 <= v.Num then φ ((v.Str.toList == ((⟨#[]⟩ : ByteArray)).toList)) else φ false) else φ false)))) := by
  have e : ∀ b, b = Aal v -> φ b := by rintro _ rfl; exact h
  have e0 : (v.Str.toList == ((⟨#[]⟩ : ByteArray)).toList) = decide (v.Str.toList = []) := by
    rw [Axf];by_cases h : v.Str.toList = []
    · simp [h]
    · simp [h]
  rw [e0, Abq]
  repeat' split
  all_goals apply e
  all_goals unfold Aal
  all_goals first
    | (rw [decide_eq_decide]; omega)
    | (symm; rw [decide_eq_false_iff_not]; omega)
    | (rw [decide_eq_decide]; constructor
       · intro h; simp_all
       · intro h; simp_all)
theorem q58_.spec {v:api_Value}:q58_.C v (Aal v):=by
 obtain ⟨r,h1,h2⟩:=q58_.enter v (fun r=>r=Aal v) (App (φ:=fun r=>r=Aal v) rfl);rw [← h1];exact h2
theorem q33_.spec {v:api_Value}:q33_.C v (Aal v):=by
 obtain ⟨r,h1,h2⟩:=q33_.enter v (fun r=>r=Aal v) (App (φ:=fun r=>r=Aal v) rfl);rw [← h1];exact h2
def Acq (l:List api_Value):Bool:=l.all Aal
theorem q23_.spec {v:api_Value}:q23_.C v (!Aal v):=by
 obtain ⟨r,h1,h2⟩:=q23_.enter v (fun r=>r=!Aal v) ⟨_,q58_.spec,rfl⟩;rw [← h1];exact h2
namespace q2_
theorem spec {l:List api_Value} (hn:l.length<Big):C l (ixI (fun v=>!Aal v) l):=by
 obtain ⟨r,h1,h2⟩:=enter l (fun r=>r=ixI (fun v=>!Aal v) l) (by
  refine Ak0 (l:=l) (p:=fun v=>!Aal v) (L:=fun i=>L1 l i _) (φ:=fun r=>r=ixI (fun v=>!Aal v) l) ?_ ?_ rfl
  ·intro h;apply L1_step;rw [if_neg (by omega)];exact h
  ·intro k a ha hk h;apply L1_step;rw [if_pos (by omega)];refine ⟨a,Acl ha,_,q23_.spec,?_⟩;rw [Aat (by unfold Big at hn;omega)]
   exact h)
 rw [← h1];exact h2
end q2_
theorem q0_.spec {l:List api_Value} (hn:l.length<Big):q0_.C l (!Acq l):=by
 obtain ⟨r,h1,h2⟩:=q0_.enter l (fun r=>r=!Acq l) ⟨_,q2_.spec hn,by
  rw [Aqb];unfold Acq;rw [List.any_eq_not_all_not];simp⟩
 rw [← h1];exact h2
theorem q27_.spec {l:List api_Value} (hn:l.length<Big):q27_.C l (Acq l):=by
 obtain ⟨r,h1,h2⟩:=q27_.enter l (fun r=>r=Acq l) ⟨_,q0_.spec hn,by
  show (!(!Acq l))=_
  rw [Bool.not_not]⟩
 rw [← h1];exact h2
theorem q28_.spec {l:List api_Value} (hn:l.length<Big):q28_.C l (Acq l):=by
 obtain ⟨r,h1,h2⟩:=q28_.enter l (fun r=>r=Acq l) (by
  refine Ang (l:=l) (p:=Aal) (L:=fun i=>q28_.L1 l i _) (φ:=fun r=>r=Acq l) ?_ ?_ rfl
  ·intro h;apply q28_.L1_step;rw [if_neg (by omega)];exact h
  ·intro k a ha hk h;apply q28_.L1_step;rw [if_pos (by omega)];refine ⟨a,Acl ha,_,q33_.spec,?_⟩;rw [Aat (by unfold Big at hn;omega)]
   exact h)
 rw [← h1];exact h2
def Adm (n:Nat):Int->List api_Row->Int
 | _,[]=>0
 | last,r::rs=>if r.ID<=last then 1 else if r.Values.length=n then (if Acq r.Values=true then Adm n r.ID rs else 1) else 6
def Ad8 (t:api_Table):Int:=if Agc t.Name=true then (if 16<t.Attrs.length then 3 else if 1000<t.Rows.length then 3 else if Aea t.Attrs=true then Adm t.Attrs.length 0 t.Rows else 1) else 1
theorem Arw {n : Nat} {l : List api_Row} {L : Int -> Int -> Prop} {φ : Int -> Prop} (stop : ∀ last, φ 0 -> L last (l.length : Int))
    (step : ∀ (k : Nat) r last, l[k]? = some r -> k < l.length -> (if r.ID <= last then φ 1 else if r.Values.length = n then (if Acq r.Values = true then L r.ID ((k + 1 : Nat) : Int) else φ 1) else φ 6) -> L last k) (h : φ (Adm n 0 l)) : L 0 0 := by
  have : ∀ (r : List api_Row) (k : Nat) (last : Int), l.drop k = r -> k <= l.length -> φ (Adm n last r) -> L last k := by
    intro r
    induction r with
    | nil => intro k last hd hk h; have : k = l.length := by have := Aeg hd; omega
             subst this; exact stop _ h
    | cons a r ih =>
      intro k last hd hk h;have hlt := Aeh hd;refine step k a last (Abs hd) hlt ?_;simp only [Adm] at h
      split
      · rename_i h1; rw [if_pos h1] at h; exact h
      · rename_i h1; rw [if_neg h1] at h
        split
        · rename_i h2; rw [if_pos h2] at h
          split
          · rename_i h3; rw [if_pos h3] at h; exact ih (k + 1) _ (Acv hd) hlt h
          · rename_i h3; rw [if_neg h3] at h; exact h
        · rename_i h2; rw [if_neg h2] at h; exact h
  exact this l 0 0 rfl (Nat.zero_le _) h
namespace q59_
theorem rows {t:api_Table} {φ:Int->Prop} (hr:t.Rows.length<=1000) (ha:t.Attrs.length<=16) (h:φ (Adm t.Attrs.length 0 t.Rows)):L2 t 0 0 φ:=by
 refine Arw (n:=t.Attrs.length) (l:=t.Rows) (L:=fun last i=>L2 t last i φ) (φ:=φ) ?_ ?_ h
 ·intro last h;apply L2_step;rw [if_neg (by omega)];exact h
 ·intro k r last hr hk h;apply L2_step;rw [if_pos (by omega)];refine ⟨r,Acl hr,?_⟩
  split
  ·rename_i h1;rw [if_pos h1] at h;exact h
  ·rename_i h1;rw [if_neg h1] at h
   split
   ·rename_i h2;have h2:r.Values.length=t.Attrs.length:=by omega
    rw [if_pos h2] at h;refine ⟨_,q27_.spec (by unfold Big;omega),?_⟩;rw [Aat (by omega)];exact h
   ·rename_i h2;rw [if_neg (by omega)] at h;exact h
theorem spec {t:api_Table}:C t (Ad8 t):=by
 obtain ⟨r,h1,h2⟩:=enter t (fun r=>r=Ad8 t) (by
  refine ⟨_,q55_.spec,?_⟩;unfold Ad8
  split
  ·by_cases h1:16<t.Attrs.length
   ·rw [if_pos (by omega),if_pos h1]
   ·rw [if_neg (by omega),if_neg h1];by_cases h2:1000<t.Rows.length
    ·rw [if_pos (by omega),if_pos h2]
    ·rw [if_neg (by omega),if_neg h2];refine Ap4 (l:=t.Attrs) (L:=fun i=>L1 t i _) (P:=Adm t.Attrs.length 0 t.Rows=if Aea t.Attrs=true then Adm t.Attrs.length 0 t.Rows else 1) (Q:=(1:Int)=if Aea t.Attrs=true then Adm t.Attrs.length 0 t.Rows else 1) ?_ ?_ ?_ ?_
     ·intro h;apply L1_step;rw [if_neg (by omega)];exact rows (φ:=fun r=>r=if Aea t.Attrs=true then Adm t.Attrs.length 0 t.Rows else 1) (by omega) (by omega) h
     ·intro k a ha hk h;apply L1_step;rw [if_pos (by omega)];refine ⟨a,Acl ha,_,q55_.spec,?_⟩
      split
      ·rename_i h1;rw [if_pos h1] at h;refine ⟨by omega,by omega,_,q17_.spec (by rw [List.length_take];unfold Big;omega),?_⟩;rw [Int.toNat_natCast,Nat.sub_zero,Aat (by omega)];exact h
      ·rename_i h1;rw [if_neg h1] at h;exact h
     ·intro h;rw [if_pos h]
     ·intro h;rw [if_neg (by rw [h];decide)]
  ·rfl)
 rw [← h1];exact h2
end q59_
namespace q35_
theorem rows {t:api_Table} {φ:Int->Prop} (hr:t.Rows.length<=1000) (ha:t.Attrs.length<=16) (h:φ (Adm t.Attrs.length 0 t.Rows)):L1 t 0 0 φ:=by
 refine Arw (n:=t.Attrs.length) (l:=t.Rows) (L:=fun last i=>L1 t last i φ) (φ:=φ) ?_ ?_ h
 ·intro last h;apply L1_step;rw [if_neg (by omega)];exact h
 ·intro k r last hr hk h;apply L1_step;rw [if_pos (by omega)];refine ⟨r,Acl hr,?_⟩
  split
  ·rename_i h1;rw [if_pos h1] at h;exact h
  ·rename_i h1;rw [if_neg h1] at h
   split
   ·rename_i h2;have h2:r.Values.length=t.Attrs.length:=by omega
    rw [if_pos h2] at h;refine ⟨_,q28_.spec (by unfold Big;omega),?_⟩;rw [Aat (by omega)];exact h
   ·rename_i h2;rw [if_neg (by omega)] at h;exact h
theorem spec {t:api_Table}:C t (Ad8 t):=by
 obtain ⟨r,h1,h2⟩:=enter t (fun r=>r=Ad8 t) (by
  refine ⟨_,q41_.spec,?_⟩;unfold Ad8
  split
  ·by_cases h1:16<t.Attrs.length
   ·rw [if_pos (by omega),if_pos h1]
   ·rw [if_neg (by omega),if_neg h1];by_cases h2:1000<t.Rows.length
    ·rw [if_pos (by omega),if_pos h2]
    ·rw [if_neg (by omega),if_neg h2];refine ⟨_,q34_.spec (by unfold Big;omega),?_⟩
     split
     ·exact rows (φ:=fun r=>r=Adm t.Attrs.length 0 t.Rows) (by omega) (by omega) rfl
     ·rfl
  ·rfl)
 rw [← h1];exact h2
end q35_
namespace q43_
theorem loop {φ:List Int->Prop}:∀ (n:Nat) (acc:List Int),n<2^32->acc.length+(Aau n).length<=1000->φ (acc++(Aau n).map fun (i:Nat)=>(i:Int))->L1 n acc φ:=by
 intro n
 induction n using Nat.strongRecOn with
 | _ n ih=>
  intro acc hn hl h;apply L1_step;by_cases h0:n=0
  ·subst h0;rw [Aug] at h;rw [if_pos (by omega)];simpa using h
  ·rw [if_neg (by omega)];rw [Auf h0 hn] at hl h;simp only [List.length_cons] at hl;refine ⟨by omega,by omega,?_⟩;have e1:IntKind.wrap .u32 ((n:Int)-1)=((n-1:Nat):Int):=by
    have:(n:Int)-1=((n-1:Nat):Int):=by omega
    rw [this];exact Aez (k:=.u32) (by simp only [top];omega)
   rw [e1,Anj (k:=.u32) (by simpa [top] using hn) (by simp only [top];omega)];refine ih _ (Az5 h0) _ (Nat.lt_of_le_of_lt Nat.and_le_left hn) (by rw [List.length_append,List.length_singleton];omega) ?_;have e2:tz32 (n:Int)=((Abn n 32 0:Nat):Int):=by unfold tz32;rw [Int.toNat_natCast]
   rw [e2];simpa using h
theorem spec {n:Nat} (hn:n<2^32):C n ((Aau n).map fun (i:Nat)=>(i:Int)):=by
 obtain ⟨r,h1,h2⟩:=enter n (fun r=>r=(Aau n).map fun (i:Nat)=>(i:Int)) (loop n [] hn (by have:=Agx (n:=n);simp;omega) (by simp));rw [← h1];exact h2
end q43_
namespace q44_
theorem loop {k:Nat} {φ:Int->Prop} (h:φ (Aco k)):∀ (m i:Nat),i+m=min k 32->L1 k ((2^i-1:Nat):Int) i φ
 | 0,i,hi=>by
  apply L1_step;have e:((2^i-1:Nat):Int)=(Aco k:Int):=by unfold Aco;rw [← hi,Nat.add_zero]
  rw [e]
  split
  ·rw [if_neg (by omega)];exact h
  ·exact h
 | m+1,i,hi=>by
  apply L1_step;rw [if_pos (by omega),if_pos (by omega)];refine ⟨by omega,?_⟩;have hp:2^(i+1)<=2^32:=Nat.pow_le_pow_right (by decide) (by omega);have h2:0<2^i:=Nat.pos_of_ne_zero (by simp);rw [Nat.pow_succ] at hp;rw [Au2 (k:=.u32) (by simp only [top];omega),Av6 (k:=.u32) (by simp only [top];omega) (by simp only [top];omega),Aat (by omega)];have e:(2^i-1) ||| 2^i=2^(i+1)-1:=by
   apply Nat.eq_of_testBit_eq;intro j;rw [Nat.testBit_or,Nat.testBit_two_pow_sub_one,Nat.testBit_two_pow,Nat.testBit_two_pow_sub_one];by_cases h1:j<i
   ·have:j<i+1:=by omega
    simp [h1,this]
   ·by_cases h3:i=j
    ·subst h3;simp
    ·have:¬ j<i+1:=by omega
     simp [h1,h3,this]
  rw [e];exact loop h m (i+1) (by omega)
theorem spec {k:Nat}:C k (Aco k):=by
 obtain ⟨r,h1,h2⟩:=enter k (fun r=>r=(Aco k:Int)) (loop (φ:=fun r=>r=(Aco k:Int)) rfl (min k 32) 0 (by omega));rw [← h1];exact h2
end q44_
namespace q50_
theorem spec {n i:Nat} (hn:n<2^32):C n i (n.testBit i):=by
 obtain ⟨r,h1,h2⟩:=enter n i (fun r=>r=n.testBit i) (by
  rw [if_pos (by omega)]
  split
  ·refine ⟨by omega,?_⟩;rw [Baj (k:=.u32) (by simpa [top] using hn) (by decide)];cases n.testBit i<;>rfl
  ·rw [Nat.testBit_lt_two_pow (Nat.lt_of_lt_of_le hn (Nat.pow_le_pow_right (by decide) (by omega)))])
 rw [← h1];exact h2
end q50_
end Go.Own

namespace Go.Own
theorem Agh {a b:Int}:cmpI a b=0↔a=b:=by
 unfold cmpI;repeat' split
 all_goals omega
theorem q45_.spec {a b:Int}:q45_.C a b (cmpI a b):=by
 obtain ⟨r,h1,h2⟩:=q45_.enter a b (fun r=>r=cmpI a b) (by
  unfold cmpI;repeat' split
  all_goals first | rfl | omega)
 rw [← h1];exact h2
def cmpL:List UInt8->List UInt8->Int
 | [],[]=>0
 | [],_::_=>-1
 | _::_,[]=>1
 | a::r,b::s=>if a=b then cmpL r s else cmpI (u8i a) (u8i b)
theorem Ar0:∀ {a b:List UInt8},cmpL a b=0↔a=b
 | [],[]=>by simp [cmpL]
 | [],_::_=>by simp [cmpL]
 | _::_,[]=>by simp [cmpL]
 | a::r,b::s=>by
  simp only [cmpL]
  split
  ·rename_i h;subst h;rw [Ar0];simp
  ·rename_i h;rw [Agh,Ajk];simp [h]
def cmpS (a b:ByteArray):Int:=cmpL a.toList b.toList
theorem Az7:∀ {a b:List UInt8},(a=[]∨b=[])->cmpI a.length b.length=cmpL a b
 | [],[],_=>rfl
 | [],_::r,_=>by
  simp only [cmpL,cmpI,List.length_cons,List.length_nil];rw [if_pos (by omega)]
 | _::r,[],_=>by
  simp only [cmpL,cmpI,List.length_cons,List.length_nil];rw [if_neg (by omega),if_pos (by omega)]
 | _::_,_::_,h=>by simp at h
namespace q25_
theorem loop {a b:ByteArray} {φ:Int->Prop} (hn:a.toList.length<Big):∀ (r s:List UInt8) (k:Nat),a.toList.drop k=r->b.toList.drop k=s->k<=a.toList.length->k<=b.toList.length->φ (cmpL r s)->L1 a b k φ:=by
 have fin:∀ (r s:List UInt8) (k:Nat),a.toList.drop k=r->b.toList.drop k=s->k<=a.toList.length->k<=b.toList.length->(r=[]∨s=[])->φ (cmpL r s)->L2 a b φ:=by
  intro r s k hr hs hk hk2 h0 h;apply L2_step;refine ⟨_,q45_.spec,?_⟩;rw [Abq,Abq];have e:cmpI a.toList.length b.toList.length=cmpI r.length s.length:=by
   rw [← hr,← hs,List.length_drop,List.length_drop];unfold cmpI
   repeat' split
   all_goals omega
  rw [e,Az7 h0];exact h
 intro r
 induction r with
 | nil=>
  intro s k hr hs hk hk2 h;apply L1_step;have:=Aeg hr;rw [Abq,if_neg (by omega)];exact fin _ _ k hr hs hk hk2 (.inl rfl) h
 | cons x r ih=>
  intro s k hr hs hk hk2 h;apply L1_step;have hlt:=Aeh hr;rw [Abq,if_pos (by omega),Abq]
  match s,hs,h with
  | [],hs,h=>
   have:=Aeg hs;rw [if_neg (by omega)];exact fin _ _ k hr hs hk hk2 (.inr rfl) h
  | y::s,hs,h=>
   have hlt2:=Aeh hs;rw [if_pos (by omega)];refine ⟨x,Ad0 (Abs hr),y,Ad0 (Abs hs),?_⟩;simp only [cmpL] at h
   split
   ·rename_i he;rw [if_pos (Ajk.1 he)] at h;rw [Aat (by unfold Big at hn;omega)];exact ih s (k+1) (Acv hr) (Acv hs) hlt hlt2 h
   ·rename_i he;rw [if_neg (fun hh=>he (Ajk.2 hh))] at h;refine ⟨x,Ad0 (Abs hr),y,Ad0 (Abs hs),_,q45_.spec,?_⟩;have b1:=Au6 (b:=x);have b2:=Au6 (b:=y);rw [Ami (by omega) (by omega),Ami (by omega) (by omega)];exact h
theorem spec {a b:ByteArray} (hn:a.toList.length<Big):C a b (cmpS a b):=by
 obtain ⟨r,h1,h2⟩:=enter a b (fun r=>r=cmpS a b) (loop hn a.toList b.toList 0 rfl rfl (by omega) (by omega) rfl);rw [← h1];exact h2
end q25_
def cmpV (v w:api_Value):Int:=if cmpI v.Kind w.Kind=0 then (if cmpI v.Num w.Num=0 then cmpS v.Str w.Str else cmpI v.Num w.Num) else cmpI v.Kind w.Kind
theorem Ar1 {v w:api_Value}:cmpV v w=0↔v=w:=by
 obtain ⟨k,n,s⟩:=v;obtain ⟨k',n',s'⟩:=w;unfold cmpV cmpS;simp only [api_Value.mk.injEq]
 split
 ·rename_i h1;rw [Agh] at h1
  split
  ·rename_i h2;rw [Agh] at h2;rw [Ar0,Ahb];simp [h1,h2]
  ·rename_i h2;have h3:=h2;rw [Agh] at h3;simp [h2,h3]
 ·rename_i h1;have h3:=h1;rw [Agh] at h3;simp [h1,h3]
theorem q26_.spec {v w:api_Value} (hn:v.Str.toList.length<Big):q26_.C v w (cmpV v w):=by
 obtain ⟨r,h1,h2⟩:=q26_.enter v w (fun r=>r=cmpV v w) (by
  refine ⟨_,q45_.spec,?_⟩;unfold cmpV
  split
  ·refine ⟨_,q45_.spec,?_⟩
   split
   ·exact ⟨_,q25_.spec hn,rfl⟩
   ·rfl
  ·rfl)
 rw [← h1];exact h2
def Avq (l:List api_Value):Prop:=l.length<Big/\∀ v∈l,v.Str.toList.length<Big
def Adj:List api_Value->List api_Value->Int
 | [],[]=>0
 | [],_::_=>-1
 | _::_,[]=>1
 | a::r,b::s=>if cmpV a b=0 then Adj r s else cmpV a b
theorem Ajt:∀ {a b:List api_Value},Adj a b=0↔a=b
 | [],[]=>by simp [Adj]
 | [],_::_=>by simp [Adj]
 | _::_,[]=>by simp [Adj]
 | a::r,b::s=>by
  simp only [Adj]
  split
  ·rename_i h;rw [Ajt];rw [Ar1] at h;simp [h]
  ·rename_i h;have h2:=h;rw [Ar1] at h2;simp [h,h2]
theorem Axm:∀ {a b:List api_Value},(a=[]∨b=[])->cmpI a.length b.length=Adj a b
 | [],[],_=>rfl
 | [],_::r,_=>by
  simp only [Adj,cmpI,List.length_cons,List.length_nil];rw [if_pos (by omega)]
 | _::r,[],_=>by
  simp only [Adj,cmpI,List.length_cons,List.length_nil];rw [if_neg (by omega),if_pos (by omega)]
 | _::_,_::_,h=>by simp at h
namespace q36_
theorem loop {a b:List api_Value} {φ:Int->Prop} (hn:Avq a):∀ (r s:List api_Value) (k:Nat),a.drop k=r->b.drop k=s->k<=a.length->k<=b.length->φ (Adj r s)->L1 a b k φ:=by
 have fin:∀ (r s:List api_Value) (k:Nat),a.drop k=r->b.drop k=s->k<=a.length->k<=b.length->(r=[]∨s=[])->φ (Adj r s)->L2 a b φ:=by
  intro r s k hr hs hk hk2 h0 h;apply L2_step;refine ⟨_,q45_.spec,?_⟩;have e:cmpI a.length b.length=cmpI r.length s.length:=by
   rw [← hr,← hs,List.length_drop,List.length_drop];unfold cmpI
   repeat' split
   all_goals omega
  rw [e,Axm h0];exact h
 intro r
 induction r with
 | nil=>
  intro s k hr hs hk hk2 h;apply L1_step;have:=Aeg hr;rw [if_neg (by omega)];exact fin _ _ k hr hs hk hk2 (.inl rfl) h
 | cons x r ih=>
  intro s k hr hs hk hk2 h;apply L1_step;have hlt:=Aeh hr;rw [if_pos (by omega)]
  match s,hs,h with
  | [],hs,h=>
   have:=Aeg hs;rw [if_neg (by omega)];exact fin _ _ k hr hs hk hk2 (.inr rfl) h
  | y::s,hs,h=>
   have hlt2:=Aeh hs;rw [if_pos (by omega)];refine ⟨x,Ark hr,y,Ark hs,_,q26_.spec (hn.2 x (List.mem_of_getElem? (Abs hr))),?_⟩;simp only [Adj] at h
   split
   ·rename_i he;rw [if_pos he] at h;rw [Aat (by have:=hn.1;unfold Big at this;omega)];exact ih s (k+1) (Acv hr) (Acv hs) hlt hlt2 h
   ·rename_i he;rw [if_neg he] at h;exact h
theorem spec {a b:List api_Value} (hn:Avq a):C a b (Adj a b):=by
 obtain ⟨r,h1,h2⟩:=enter a b (fun r=>r=Adj a b) (loop hn a b 0 rfl rfl (by omega) (by omega) rfl);rw [← h1];exact h2
end q36_
theorem q46_.spec {a b:List api_Value} (hn:Avq a):q46_.C a b (decide (a=b)):=by
 obtain ⟨r,h1,h2⟩:=q46_.enter a b (fun r=>r=decide (a=b)) ⟨_,q36_.spec hn,by
  by_cases h:a=b
  ·simp [h,Ajt.2 rfl]
  ·have:Adj a b≠0:=fun hh=>h (Ajt.1 hh)
   simp [h,this]⟩
 rw [← h1];exact h2
def be:Nat->Nat->List Int
 | 0,_=>[]
 | j+1,u=>((u / 2^(8*j) % 256:Nat):Int)::be j u
theorem Aoa:∀ {j u},(be j u).length=j
 | 0,_=>rfl
 | j+1,u=>by simp [be,Aoa]
theorem Asy:∀ {j u},∀ x∈be j u,0<=x/\x<256
 | 0,_,_,h=>by simp [be] at h
 | j+1,u,x,h=>by
  simp only [be,List.mem_cons] at h;rcases h with rfl | h
  ·omega
  ·exact Asy x h
theorem Axd:∀ {j u v},be j u=be j v->u % 2^(8*j)=v % 2^(8*j)
 | 0,u,v,_=>by simp [Nat.mod_one]
 | j+1,u,v,h=>by
  simp only [be,List.cons.injEq] at h;have ih:=Axd h.2;have e:2^(8*(j+1))=2^(8*j)*256:=by rw [Nat.mul_add,Nat.pow_add]
  rw [e,Nat.mod_mul,Nat.mod_mul,ih];have:u / 2^(8*j) % 256=v / 2^(8*j) % 256:=by omega
  rw [this]
def Afc (n:Int):Nat:=(n % 18446744073709551616).toNat ^^^ 9223372036854775808
theorem Al5 {n:Int}:Afc n<2^64:=Nat.xor_lt_two_pow (by omega) (by decide)
theorem Aw8 {m n:Int} (hm : -9223372036854775808<=m/\m<9223372036854775808) (hn : -9223372036854775808<=n/\n<9223372036854775808) (h:Afc m=Afc n):m=n:=by
 unfold Afc at h;have h2:(m % 18446744073709551616).toNat=(n % 18446744073709551616).toNat:=by
  have:=congrArg (· ^^^ 9223372036854775808) h;simpa [Nat.xor_assoc] using this
 omega
namespace q56_
theorem loop {φ:List Int->Prop} {u:Nat} (hu:u<2^64):∀ (j:Nat) (acc:List Int),j<=8->acc.length+j<=1000->φ (acc++be j u)->L1 acc u (8*(j:Int)-8) φ
 | 0,acc,hj,hl,h=>by
  apply L1_step;rw [if_neg (by omega)];simpa [be] using h
 | j+1,acc,hj,hl,h=>by
  apply L1_step;rw [if_pos (by omega)];refine ⟨by omega,by omega,?_⟩;have e1:8*((j+1:Nat):Int)-8=((8*j:Nat):Int):=by omega
  rw [e1,Ao0 (k:=.u64) (by simpa [top] using hu),IntKind.wrap_u8,Ami (by omega) (by omega)];have e2:((8*j:Nat):Int)-8=8*(j:Int)-8:=by omega
  rw [e2];refine loop hu j _ (by omega) (by simp;omega) ?_;have e3:((u / 2^(8*j):Nat):Int) % 256=((u / 2^(8*j) % 256:Nat):Int):=by omega
  rw [e3];simpa [be] using h
theorem spec {n:Int} {acc:List Int} (hl:acc.length<=900):C n acc (acc++be 8 (Afc n)):=by
 obtain ⟨r,h1,h2⟩:=enter n acc (fun r=>r=acc++be 8 (Afc n)) (by
  have e:bXor .u64 (IntKind.wrap .u64 n) 9223372036854775808=(Afc n:Int):=by
   have e1:IntKind.wrap .u64 n=(((n % 18446744073709551616).toNat:Nat):Int):=by
    simp only [IntKind.wrap,IntKind.bits,IntKind.signed];simp;omega
   rw [e1];exact Az1 (k:=.u64) (b:=9223372036854775808) (by simp only [top];omega) (by simp only [top];omega)
  rw [e]
  exact loop Al5 8 acc (by omega) (by omega) rfl)
 rw [← h1];exact h2
end q56_
def esc:List UInt8->List Int
 | []=>[]
 | b::r=>if u8i b=0 then 0::255::esc r else u8i b::esc r
theorem Aza {l:List UInt8} {b:UInt8}:esc (l++[b])=esc l++esc [b]:=by
 induction l with
 | nil=>rfl
 | cons a l ih=>simp only [List.cons_append,esc,ih];split<;>rfl
theorem Ai9:∀ {l:List UInt8},∀ x∈esc l,0<=x/\x<256
 | [],x,h=>by simp [esc] at h
 | b::r,x,h=>by
  simp only [esc] at h
  split at h
  ·simp only [List.mem_cons] at h;rcases h with rfl | rfl | h
   ·omega
   ·omega
   ·exact Ai9 x h
  ·simp only [List.mem_cons] at h;rcases h with rfl | h
   ·exact Au6
   ·exact Ai9 x h
theorem Am8:∀ {l:List UInt8},(esc l).length<=2*l.length
 | []=>by simp [esc]
 | b::r=>by
  have:=Am8 (l:=r);simp only [esc]
  split<;>simp only [List.length_cons]<;>omega
theorem Aq4:∀ {a b:List UInt8} {r s:List Int},esc a++(0::1::r)=esc b++(0::1::s)->a=b/\r=s
 | [],[],r,s,h=>by simpa [esc] using h
 | [],y::b,r,s,h=>by
  simp only [esc] at h
  split at h
  ·simp at h
  ·rename_i hy;simp only [List.nil_append,List.cons_append,List.cons.injEq] at h;exact absurd h.1.symm hy
 | x::a,[],r,s,h=>by
  simp only [esc] at h
  split at h
  ·simp at h
  ·rename_i hx;simp only [List.nil_append,List.cons_append,List.cons.injEq] at h;exact absurd h.1 hx
 | x::a,y::b,r,s,h=>by
  simp only [esc] at h
  split at h
  ·rename_i hx
   split at h
   ·rename_i hy;simp only [List.cons_append,List.cons.injEq,true_and] at h;obtain ⟨h1,h2⟩:=Aq4 h;exact ⟨by rw [h1,Ajk.1 (hx.trans hy.symm)],h2⟩
   ·rename_i hy;simp only [List.cons_append,List.cons.injEq] at h;exact absurd h.1.symm hy
  ·rename_i hx
   split at h
   ·rename_i hy;simp only [List.cons_append,List.cons.injEq] at h;exact absurd h.1 hx
   ·rename_i hy;simp only [List.cons_append,List.cons.injEq] at h;obtain ⟨h1,h2⟩:=Aq4 h.2;exact ⟨by rw [h1,Ajk.1 h.1],h2⟩
def keyJ (v:api_Value):List Int:=v.Kind::(if v.Kind=1∨v.Kind=3 then be 8 (Afc v.Num) else if v.Kind=2 then esc v.Str.toList++[0,1] else [])
def Ahz (v:api_Value):Prop:=-9223372036854775808<=v.Num/\v.Num<9223372036854775808
theorem Ad9 {v:api_Value} (h:Aal v=true):v.Kind=0/\v.Num=0/\v.Str.toList=[]∨v.Kind=1/\v.Str.toList=[]∨v.Kind=2/\v.Num=0/\v.Str.toList.length<=200∨v.Kind=3/\1<=v.Num/\v.Str.toList=[]:=by
 simpa [Aal] using h
theorem Aow {v:api_Value} (h:Aal v=true):∀ x∈keyJ v,0<=x/\x<256:=by
 intro x hx;have hk:0<=v.Kind/\v.Kind<=3:=by rcases Ad9 h with h | h | h | h<;>omega
 simp only [keyJ,List.mem_cons] at hx;rcases hx with rfl | hx
 ·omega
 ·split at hx
  ·exact Asy x hx
  ·split at hx
   ·rcases List.mem_append.1 hx with hx | hx
    ·exact Ai9 x hx
    ·simp at hx;rcases hx with rfl | rfl<;>omega
   ·simp at hx
theorem Atm {v:api_Value} (h:Aal v=true):(keyJ v).length<=403:=by
 simp only [keyJ,List.length_cons]
 split
 ·rw [Aoa];omega
 ·split
  ·have:=Am8 (l:=v.Str.toList);have:v.Str.toList.length<=200:=by
    rcases Ad9 h with h | h | h | h
    ·rw [h.2.2];simp
    ·rw [h.2];simp
    ·exact h.2.2
    ·rw [h.2.2];simp
   simp;omega
  ·simp
theorem Azh {v w:api_Value} {r s:List Int} (hv:Aal v=true) (hw:Aal w=true) (nv:Ahz v) (nw:Ahz w) (h:keyJ v++r=keyJ w++s):v=w/\r=s:=by
 obtain ⟨k,n,t⟩:=v;obtain ⟨k',n',t'⟩:=w;simp only [keyJ,List.cons_append,List.cons.injEq] at h;obtain ⟨rfl,h⟩:=h;have hv:=Ad9 hv;have hw:=Ad9 hw;simp only at hv hw;simp only [api_Value.mk.injEq,true_and];by_cases h1:k=1∨k=3
 ·rw [if_pos h1,if_pos h1] at h;have h3:=List.append_inj h (by rw [Aoa,Aoa]);have h2:=Axd h3.1;rw [Nat.mod_eq_of_lt Al5,Nat.mod_eq_of_lt Al5] at h2;have e:=Aw8 nv nw h2;simp only at e;refine ⟨⟨e,?_⟩,h3.2⟩;rw [← Ahb];have a1:t.toList=[]:=by rcases hv with h | h | h | h<;>first | exact h.2.2 | exact h.2 | omega
  have a2:t'.toList=[]:=by rcases hw with h | h | h | h<;>first | exact h.2.2 | exact h.2 | omega
  rw [a1,a2]
 ·rw [if_neg h1,if_neg h1] at h;by_cases h2:k=2
  ·rw [if_pos h2,if_pos h2,List.append_assoc,List.append_assoc] at h;obtain ⟨e1,e2⟩:=Aq4 h;rw [Ahb] at e1;exact ⟨⟨by omega,e1⟩,e2⟩
  ·rw [if_neg h2,if_neg h2] at h;have a1:t.toList=[]:=by rcases hv with h | h | h | h<;>first | exact h.2.2 | exact h.2 | omega
   have a2:t'.toList=[]:=by rcases hw with h | h | h | h<;>first | exact h.2.2 | exact h.2 | omega
   exact ⟨⟨by omega,by rw [← Ahb,a1,a2]⟩,by simpa using h⟩
def keyW (v:api_Value):ByteArray:=Ai6 (keyJ v)
namespace q62_
theorem loop {v:api_Value} {φ:ByteArray×Int->Prop} (hk:v.Kind=2) (hs:v.Str.toList.length<=200) (h:φ (keyW v,0)):∀ (r:List UInt8) (k:Nat),v.Str.toList.drop k=r->k<=v.Str.toList.length->L1 v (2::esc (v.Str.toList.take k)) k φ:=by
 intro r
 induction r with
 | nil=>
  intro k hd hk2;apply L1_step;have:=Aeg hd;rw [Abq,if_neg (by omega),List.take_of_length_le this];have hl:=Am8 (l:=v.Str.toList);have e:keyJ v=(2::esc v.Str.toList)++[0,1]:=by simp [keyJ,hk]
  refine ⟨by simp only [List.length_cons];omega,fun x hx=>?_,?_⟩
  ·rcases List.mem_append.1 hx with hx | hx
   ·rcases List.mem_cons.1 hx with rfl | hx
    ·omega
    ·exact Ai9 x hx
   ·simp at hx;rcases hx with rfl | rfl<;>omega
  ·rw [← e];exact h
 | cons b r ih=>
  intro k hd hk2;have hlt:=Aeh hd;apply L1_step;rw [Abq,if_pos (by omega)];have hl:=Am8 (l:=v.Str.toList.take k);rw [List.length_take] at hl;refine ⟨b,Ad0 (Abs hd),by simp only [List.length_cons];omega,b,Ad0 (Abs hd),?_⟩;have ih:=ih (k+1) (Acv hd) hlt;have e:v.Str.toList.take (k+1)=v.Str.toList.take k++[b]:=by rw [List.take_add_one,Abs hd];rfl
  rw [e,Aza] at ih;have next:∀ l,l=2::(esc (v.Str.toList.take k)++esc [b])->L4 v l k φ:=by
   rintro _ rfl;apply L4_step;rw [Aat (by omega)];exact ih
  split
  ·rename_i h0;refine ⟨by simp only [List.length_append,List.length_cons,List.length_nil];omega,next _ ?_⟩;simp [esc,h0]
  ·rename_i h0;exact next _ (by simp [esc,h0])
theorem spec {v:api_Value} (hv:Aal v=true):C v (keyW v,0):=by
 obtain ⟨r,h1,h2⟩:=enter v (fun r=>r=(keyW v,0)) (by
  refine ⟨_,q58_.spec,?_⟩;rw [if_pos hv];have hc:=Ad9 hv;have hk:0<=v.Kind/\v.Kind<=3:=by rcases hc with h | h | h | h<;>omega
  have ek:IntKind.wrap .u8 v.Kind=v.Kind:=by rw [IntKind.wrap_u8];omega
  have two:∀ b,(v.Kind=1∨v.Kind=3)->L2 v b fun r=>r=(keyW v,0):=by
   intro b hb;apply L2_step;rw [ek];have e:keyJ v=[v.Kind]++be 8 (Afc v.Num):=by simp [keyJ,hb]
   refine ⟨_,q56_.spec (by simp),?_,?_⟩
   ·rw [← e];exact Aow hv
   ·rw [← e];rfl
  have three:¬ (v.Kind=1∨v.Kind=3)->L3 v fun r=>r=(keyW v,0):=by
   intro hb;apply L3_step;rw [ek]
   split
   ·rename_i h2;have hs:v.Str.toList.length<=200:=by
     rcases hc with h | h | h | h
     ·omega
     ·omega
     ·exact h.2.2
     ·omega
    have:=loop (φ:=fun r=>r=(keyW v,0)) h2 hs rfl v.Str.toList 0 rfl (by omega);rw [h2];simpa [esc] using this
   ·rename_i h2;refine ⟨fun x hx=>by simp at hx;omega,?_⟩;simp [keyW,keyJ,hb,h2]
  split
  ·rename_i h1;exact two _ (.inl h1)
  ·rename_i h1
   split
   ·rename_i h3;exact two _ (.inr h3)
   ·rename_i h3;exact three (by omega))
 rw [← h1];exact h2
end q62_
def b8 (x:Int):UInt8:=UInt8.ofNat x.toNat
theorem Bbt {x y:Int} (hx:0<=x/\x<256) (hy:0<=y/\y<256) (h:b8 x=b8 y):x=y:=by
 unfold b8 at h;have:=congrArg UInt8.toNat h;simp at this;omega
theorem Ap3:∀ {l m:List Int},(∀ x∈l,0<=x/\x<256)->(∀ x∈m,0<=x/\x<256)->l.map b8=m.map b8->l=m
 | [],[],_,_,_=>rfl
 | [],_::_,_,_,h=>by simp at h
 | _::_,[],_,_,h=>by simp at h
 | x::l,y::m,h1,h2,h=>by
  simp only [List.map_cons,List.cons.injEq] at h;rw [Bbt (h1 x (by simp)) (h2 y (by simp)) h.1,Ap3 (fun z hz=>h1 z (by simp [hz])) (fun z hz=>h2 z (by simp [hz])) h.2]
theorem Ay1 {v:api_Value}:(keyW v).data.toList=(keyJ v).map b8:=by
 unfold keyW Ai6 b8;simp
theorem Ay2 {v:api_Value}:(keyW v).size=(keyJ v).length:=by
 have:(keyW v).size=(keyW v).data.toList.length:=rfl;rw [this,Ay1,List.length_map]
def Adv (l:List api_Value):List Int:=l.flatMap keyJ
theorem Amw {l:List api_Value} (h:∀ v∈l,Aal v=true):∀ x∈Adv l,0<=x/\x<256:=by
 intro x hx;obtain ⟨v,hv,hx⟩:=List.mem_flatMap.1 hx;exact Aow (h v hv) x hx
theorem Ari:∀ {l m:List api_Value},l.length=m.length->(∀ v∈l,Aal v=true/\Ahz v)->(∀ v∈m,Aal v=true/\Ahz v)->Adv l=Adv m->l=m
 | [],[],_,_,_,_=>rfl
 | [],_::_,h,_,_,_=>by simp at h
 | _::_,[],h,_,_,_=>by simp at h
 | v::l,w::m,hl,h1,h2,h=>by
  simp only [Adv,List.flatMap_cons] at h;have a:=h1 v (by simp);have b:=h2 w (by simp);obtain ⟨e1,e2⟩:=Azh a.1 b.1 a.2 b.2 h;rw [e1,Ari (by simpa using hl) (fun z hz=>h1 z (by simp [hz])) (fun z hz=>h2 z (by simp [hz])) e2]
def Abd (l:List api_Value):ByteArray:=bstr ((Adv l).map b8)
theorem Arj {l m:List api_Value} (hl:l.length=m.length) (h1:∀ v∈l,Aal v=true/\Ahz v) (h2:∀ v∈m,Aal v=true/\Ahz v):Abd l=Abd m↔l=m:=by
 constructor
 ·intro h;have h3:(Adv l).map b8=(Adv m).map b8:=by
   have:=congrArg ByteArray.toList h;unfold Abd at this
   rwa [Aq0,Aq0] at this
  exact Ari hl h1 h2 (Ap3 (Amw fun v hv=>(h1 v hv).1) (Amw fun v hv=>(h2 v hv).1) h3)
 ·rintro rfl;rfl
def pick (l:List api_Value) (n:Nat):List api_Value:=(Aau n).filterMap fun i=>l[i]?
theorem Atc {α β:Type} {f g:α->Option β}:∀ {l:List α},(∀ a∈l,f a=g a)->l.filterMap f=l.filterMap g
 | [],_=>rfl
 | a::l,h=>by
  have ih:=Atc (l:=l) fun b hb=>h b (by simp [hb]);simp only [List.filterMap_cons,h a (by simp),ih]
theorem Axe {n k:Nat} (hn:n<2^32):(Aau n).filter (fun i=>decide (i<k+1))=(Aau n).filter (fun i=>decide (i<k))++if n.testBit k=true then [k] else []:=by
 refine Apm (Aeu.filter _) ?_ fun x=>?_
 ·rw [List.pairwise_append];refine ⟨Aeu.filter _,by split<;>simp,fun a ha b hb=>?_⟩;have ha:=(List.mem_filter.1 ha).2
  split at hb
  ·simp at hb ha;omega
  ·simp at hb
 ·simp only [List.mem_filter,List.mem_append,decide_eq_true_eq]
  split
  ·rename_i h;rw [List.mem_singleton];constructor
   ·rintro ⟨h1,h2⟩;by_cases hx:x<k
    ·exact .inl ⟨h1,hx⟩
    ·exact .inr (by omega)
   ·rintro (⟨h1,h2⟩ | rfl)
    ·exact ⟨h1,by omega⟩
    ·exact ⟨(Ace hn).2 h,by omega⟩
  ·rename_i h;constructor
   ·rintro ⟨h1,h2⟩;have:x≠k:=fun e=>h (e ▸ (Ace hn).1 h1);exact .inl ⟨h1,by omega⟩
   ·rintro (⟨h1,h2⟩ | h1)
    ·exact ⟨h1,by omega⟩
    ·simp at h1
namespace q30_
theorem spec {r:api_Row} {n:Nat} (hn:n<2^32) (hr:r.Values.length<=1000):C r n (pick r.Values n):=by
 obtain ⟨q,h1,h2⟩:=enter r n (fun q=>q=pick r.Values n) (by
  have loop:∀ k,k<=r.Values.length->L1 r n (((Aau n).filter fun i=>decide (i<k)).filterMap fun i=>r.Values[i]?) k fun q=>q=pick r.Values n:=by
   refine down ?_ ?_
   ·apply L1_step;rw [if_neg (by omega)];unfold pick;rw [List.filterMap_filter];refine Atc fun i hi=>?_;by_cases h:i<r.Values.length
    ·simp [h]
    ·simp [h]
   ·intro k hk h;apply L1_step;rw [if_pos (by omega)];have hget:=List.getElem?_eq_getElem hk;have hlen:(((Aau n).filter fun i=>decide (i<k)).filterMap fun i=>r.Values[i]?).length<=32:=
     Nat.le_trans (List.length_filterMap_le _ _) (Nat.le_trans (List.length_filter_le _ _) Agx)
    rw [Axe hn,List.filterMap_append] at h;refine ⟨_,q50_.spec hn,?_⟩;have next:∀ l,l=(((Aau n).filter fun i=>decide (i<k)).filterMap fun i=>r.Values[i]?)++((if n.testBit k=true then [k] else []).filterMap fun i=>r.Values[i]?)->L2 r n l k fun q=>q=pick r.Values n:=by
     rintro _ rfl;apply L2_step;rw [Aat (by omega)];exact h
    split
    ·rename_i hb;exact ⟨r.Values[k],Acl hget,by omega,next _ (by simp [hb,hget])⟩
    ·rename_i hb;exact next _ (by simp [hb])
  have:=loop 0 (Nat.zero_le _);have e:(Aau n).filter (fun i=>decide (i<0))=[]:=by rw [List.filter_eq_nil_iff];simp
  rw [e] at this
  exact this)
 rw [← h1];exact h2
end q30_
def Ado (a b:List api_Value) (n:Nat):Bool:=decide (pick a n=pick b n)
theorem Baa {a b:List api_Value} (hl:a.length=b.length):∀ {l:List Nat},(l.filterMap fun i=>a[i]?)=(l.filterMap fun i=>b[i]?)↔∀ i∈l,a[i]? = b[i]?
 | []=>by simp
 | k::l=>by
  have ih:=Baa (a:=a) (b:=b) hl (l:=l);by_cases h:k<a.length
  ·have e1:=List.getElem?_eq_getElem h;have e2:=List.getElem?_eq_getElem (l:=b) (i:=k) (by omega);simp only [List.filterMap_cons,e1,e2,List.cons.injEq,ih,List.forall_mem_cons,zJ]
  ·have e1:a[k]? = none:=List.getElem?_eq_none (by omega);have e2:b[k]? = none:=List.getElem?_eq_none (by omega);simp only [List.filterMap_cons,e1,e2,ih,List.forall_mem_cons,true_and]
theorem Axa {a b:List api_Value} {n:Nat} (hn:n<2^32) (hl:a.length=b.length):Ado a b n=true↔∀ i,n.testBit i=true->a[i]? = b[i]?:=by
 unfold Ado pick;rw [decide_eq_true_iff,Baa hl];constructor
 ·exact fun h i hi=>h i ((Ace hn).2 hi)
 ·exact fun h i hi=>h i ((Ace hn).1 hi)
theorem Ak7 {l:List api_Value} {n:Nat}:∀ v∈pick l n,v∈l:=by
 intro v hv;obtain ⟨i,_,hi⟩:=List.mem_filterMap.1 hv;exact List.mem_of_getElem? hi
theorem Atx {l:List api_Value} {n:Nat}:(pick l n).length<=32:=Nat.le_trans (List.length_filterMap_le _ _) Agx
theorem q37_.spec {a b:api_Row} {n:Nat} (hn:n<2^32) (ha:a.Values.length<=1000) (hb:b.Values.length<=1000) (hs:∀ v∈a.Values,v.Str.toList.length<Big):q37_.C a b n (Ado a.Values b.Values n):=by
 obtain ⟨q,h1,h2⟩:=q37_.enter a b n (fun q=>q=Ado a.Values b.Values n)
  ⟨_,q30_.spec hn ha,_,q30_.spec hn hb,_,q46_.spec ⟨by have:=Atx (l:=a.Values) (n:=n);unfold Big;omega,fun v hv=>hs v (Ak7 v hv)⟩,rfl⟩
 rw [← h1];exact h2
structure TV (t:api_Table):Prop where
 name:Agc t.Name=true
 na:t.Attrs.length<=16
 nr:t.Rows.length<=1000
 names:Aea t.Attrs=true
 rows:Adm t.Attrs.length 0 t.Rows=0
theorem Akc {t:api_Table}:Ad8 t=0↔TV t:=by
 unfold Ad8;constructor
 ·intro h
  split at h
  ·split at h
   ·cases h
   ·split at h
    ·cases h
    ·split at h
     ·rename_i h1 h2 h3 h4;exact ⟨h1,by omega,by omega,h4,h⟩
     ·cases h
  ·cases h
 ·intro h;rw [if_pos h.name,if_neg (by have:=h.na;omega),if_neg (by have:=h.nr;omega),if_pos h.names];exact h.rows
theorem Alo {n:Nat}:∀ {l:List api_Row} {last:Int},Adm n last l=0->∀ r∈l,r.Values.length=n/\(∀ v∈r.Values,Aal v=true)/\last<r.ID
 | [],_,_,r,hr=>by cases hr
 | a::l,last,h,r,hr=>by
  simp only [Adm] at h
  split at h
  ·cases h
  ·split at h
   ·split at h
    ·rename_i h1 h2 h3;unfold Acq at h3;rw [List.all_eq_true] at h3;rcases List.mem_cons.1 hr with rfl | hr
     ·exact ⟨h2,h3,by omega⟩
     ·obtain ⟨e1,e2,e3⟩:=Alo h r hr;exact ⟨e1,e2,by omega⟩
    ·cases h
   ·cases h
theorem TV.len {t:api_Table} (h:TV t) {r:api_Row} (hr:r∈t.Rows):r.Values.length=t.Attrs.length:=(Alo h.rows r hr).1
theorem TV.val {t:api_Table} (h:TV t) {r:api_Row} (hr:r∈t.Rows):∀ v∈r.Values,Aal v=true:=(Alo h.rows r hr).2.1
theorem Ayo {v:api_Value} (h:Aal v=true):v.Str.toList.length<=200:=by
 rcases Ad9 h with h | h | h | h
 ·rw [h.2.2];simp
 ·rw [h.2];simp
 ·exact h.2.2
 ·rw [h.2.2];simp
def TNum (t:api_Table):Prop:=∀ r∈t.Rows,∀ v∈r.Values,Ahz v
def Ah5 (t:api_Table) (n:Nat):List (List api_Value):=t.Rows.map fun r=>pick r.Values n
theorem Azw {t:api_Table} (ht:TV t) {n i j:Nat} (hn:n<2^32) (hi:i<t.Rows.length) (hj:j<t.Rows.length):(Ah5 t n)[i]? = (Ah5 t n)[j]?↔∀ k,n.testBit k=true->(t.Rows[i]'hi).Values[k]? = (t.Rows[j]'hj).Values[k]?:=by
 unfold Ah5;rw [List.getElem?_map,List.getElem?_map,List.getElem?_eq_getElem hi,List.getElem?_eq_getElem hj];simp only [Option.map_some,zJ];rw [← Axa hn (by rw [ht.len (List.getElem_mem hi),ht.len (List.getElem_mem hj)])];unfold Ado;rw [decide_eq_true_iff]
theorem agr {t:api_Table} {n i k:Nat} (hi:i<t.Rows.length) (hk:k<t.Rows.length):Ado (t.Rows[i]).Values (t.Rows[k]).Values n=true↔(Ah5 t n)[i]? = (Ah5 t n)[k]?:=by
 unfold Ah5 Ado;rw [List.getElem?_map,List.getElem?_map,List.getElem?_eq_getElem hi,List.getElem?_eq_getElem hk];simp
def EqA (t:api_Table) (i k a:Nat):Prop:=(t.Rows[i]?.map fun r=>r.Values[a]?)=(t.Rows[k]?.map fun r=>r.Values[a]?)
instance (t:api_Table) (i k a:Nat):Decidable (EqA t i k a):=by unfold EqA;infer_instance
theorem Atw {t:api_Table} (ht:TV t) {n i j:Nat} (hn:n<2^32) (hi:i<t.Rows.length) (hj:j<t.Rows.length):(Ah5 t n)[i]? = (Ah5 t n)[j]?↔∀ k,n.testBit k=true->EqA t i j k:=by
 rw [Azw ht hn hi hj];unfold EqA;rw [List.getElem?_eq_getElem hi,List.getElem?_eq_getElem hj];simp only [Option.map_some,zJ]
theorem q51_.spec {a b:Nat} (ha:a<2^32) (hb:b<2^32):q51_.C a b (decide (a &&& b=a)):=by
 obtain ⟨r,h1,h2⟩:=q51_.enter a b (fun r=>r=decide (a &&& b=a)) (by
  rw [Anj (k:=.u32) (by simpa [top] using ha) (by simpa [top] using hb)];by_cases h:a &&& b=a
  ·simp [h]
  ·have:¬ ((a &&& b:Nat):Int)=(a:Int):=by omega
   simp [h,this])
 rw [← h1];exact h2
def inU (n:Nat) (l r:Int):Bool:=decide (sN l<2^n)&&decide (sN r<2^n)
theorem Ba2 {a n:Nat} (ha:a<2^32) (hn:n<=32):(a &&& Aco n=a)↔a<2^n:=by
 rw [Bbm,Bds];constructor
 ·intro h i hi;have:=h i hi;rw [Aic,decide_eq_true_iff] at this;omega
 ·intro h i hi;rw [Aic,decide_eq_true_iff];have:=h i hi;omega
theorem Bdx {n:Nat} {x:Int} (hn:n<=32) (hx:U32 x):q51_.C x (Aco n) (decide (sN x<2^n)):=by
 have:=q51_.spec (a:=sN x) (b:=Aco n) hx.lt Atf;rw [← hx.eq] at this;have e:decide (sN x &&& Aco n=sN x)=decide (sN x<2^n):=by rw [decide_eq_decide];exact Ba2 hx.lt hn
 rw [e] at this;exact this
theorem q31_.spec {n:Nat} {x:Int} (hn:n<=32) (hx:U32 x):q31_.C n x (decide (sN x<2^n)):=by
 obtain ⟨r,h1,h2⟩:=q31_.enter n x (fun r=>r=decide (sN x<2^n)) ⟨_,q44_.spec,_,Bdx hn hx,rfl⟩;rw [← h1];exact h2
theorem Ah8 {t:api_Table} (ht:TV t) {n i k:Nat} (hn:n<2^32) (hi:i<t.Rows.length) (hk:k<t.Rows.length):Ado (t.Rows[i]).Values (t.Rows[k]).Values n=true↔∀ a,n.testBit a=true->EqA t i k a:=(agr hi hk).trans (Atw ht hn hi hk)
def MixP (t:api_Table) (left i k:Nat):Prop:=∃ j,j<t.Rows.length/\(∀ a,left.testBit a=true->EqA t j i a)/\∀ a,a<t.Attrs.length->left.testBit a=false->EqA t j k a
def MvP (t:api_Table) (l r:Nat):Prop:=∀ i k,i<t.Rows.length->k<t.Rows.length->(∀ a,l.testBit a=true->EqA t i k a)->MixP t (l ||| r) i k
theorem Aln {t:api_Table} (ht:TV t) {n i k:Nat} (hn:n<2^32) (hi:i<t.Rows.length) (hk:k<t.Rows.length):q37_.C (t.Rows[i]) (t.Rows[k]) n (Ado (t.Rows[i]).Values (t.Rows[k]).Values n):=by
 have mi:=List.getElem_mem hi;have mk:=List.getElem_mem hk;have na:=ht.na;have la:=ht.len mi;have lb:=ht.len mk;exact q37_.spec hn (by omega) (by omega) fun v hv=>by have:=Ayo (ht.val mi v hv);unfold Big;omega
theorem Au0 {n left:Nat} (hn:n<=16) {P:Nat->Prop}:(∀ a,(Abj (Aco n) left).testBit a=true->P a)↔∀ a,a<n->left.testBit a=false->P a:=by
 constructor
 ·intro h a ha hl;refine h a ?_;rw [Af6,Aic,hl,decide_eq_true (by omega)];rfl
 ·intro h a ha;rw [Af6,Aic,Bool.and_eq_true,Bool.not_eq_true',decide_eq_true_eq] at ha;exact h a (by omega) ha.2
theorem q38_.spec {t:api_Table} (ht:TV t) {left i k:Nat} (hl:left<2^32) (hi:i<t.Rows.length) (hk:k<t.Rows.length):∃ b,q38_.C t (t.Rows[i]) (t.Rows[k]) left b/\(b=true↔MixP t left i k):=by
 have na:=ht.na;have nr:=ht.nr;have hf:Aco t.Attrs.length<2^32:=Atf;have hrest:Abj (Aco t.Attrs.length) left<2^32:=Nat.lt_of_le_of_lt Ag1 hf;obtain ⟨b,h1,h2⟩:=q38_.enter t (t.Rows[i]) (t.Rows[k]) left (fun b=>(b=true↔MixP t left i k)) (by
  have go:∀ (d j:Nat),d+j=t.Rows.length->(∀ q,q<j->¬ ((∀ a,left.testBit a=true->EqA t q i a)/\∀ a,a<t.Attrs.length->left.testBit a=false->EqA t q k a))->q38_.L1 t (t.Rows[i]) (t.Rows[k]) left (j:Int) (fun b=>(b=true↔MixP t left i k)):=by
   intro d
   induction d with
   | zero=>
    intro j hd hno;apply q38_.L1_step;rw [if_neg (by omega)];simp only [Bool.false_eq_true,false_iff];rintro ⟨q,hq,h⟩;exact hno q (by omega) h
   | succ d ih=>
    intro j hd hno;have hj:j<t.Rows.length:=by omega
    have next:¬ ((∀ a,left.testBit a=true->EqA t j i a)/\∀ a,a<t.Attrs.length->left.testBit a=false->EqA t j k a)->q38_.L2 t (t.Rows[i]) (t.Rows[k]) left (j:Int) (fun b=>(b=true↔MixP t left i k)):=fun hn=>by
     apply q38_.L2_step;rw [Aat (by omega)];refine ih (j+1) (by omega) fun q hq=>?_;by_cases hqj:q=j
     ·subst hqj;exact hn
     ·exact hno q (by omega)
    apply q38_.L1_step;rw [if_pos (by omega)];refine ⟨t.Rows[j],Acl (List.getElem?_eq_getElem hj),_,Aln ht hl hj hi,?_⟩;by_cases ha:Ado (t.Rows[j]).Values (t.Rows[i]).Values left=true
    ·rw [if_pos ha];refine ⟨_,q44_.spec,?_⟩;rw [Air (by simpa [top] using hf) (by simpa [top] using hl)];refine ⟨_,Aln ht hrest hj hk,?_⟩;by_cases hb:Ado (t.Rows[j]).Values (t.Rows[k]).Values (Abj (Aco t.Attrs.length) left)=true
     ·rw [if_pos hb];simp only [true_iff];exact ⟨j,hj,(Ah8 ht hl hj hi).1 ha,(Au0 na).1 ((Ah8 ht hrest hj hk).1 hb)⟩
     ·rw [if_neg hb];exact next fun h=>hb ((Ah8 ht hrest hj hk).2 ((Au0 na).2 h.2))
    ·rw [if_neg ha];exact next fun h=>ha ((Ah8 ht hl hj hi).2 h.1)
  exact go t.Rows.length 0 rfl fun q hq=>absurd hq (Nat.not_lt_zero q))
 exact ⟨b,h2,h1⟩
open Classical in
noncomputable def mvB (t:api_Table) (l r:Nat):Bool:=decide (MvP t l r)
theorem Aqf {t:api_Table} {l r:Nat}:mvB t l r=true↔MvP t l r:=by unfold mvB;exact @decide_eq_true_iff _ (Classical.propDecidable _)
theorem orI {l r:Int} (hl:U32 l) (hr:U32 r):bOr .u32 l r=((sN l ||| sN r:Nat):Int):=by
 conv=>lhs;rw [hl.eq,hr.eq]
 exact Av6 hl.top hr.top
theorem Aor {n:Nat} {l r:Int}:inU n l r=true↔sN l ||| sN r<2^n:=by
 unfold inU;rw [Bool.and_eq_true,decide_eq_true_eq,decide_eq_true_eq,Bec]
noncomputable def Aj4 (t:api_Table) (m:api_MVD):Bool×Int:=if inU t.Attrs.length m.Lhs m.Rhs=true then (mvB t (sN m.Lhs) (sN m.Rhs),0) else (false,1)
namespace q39_
theorem loop {t:api_Table} (ht:TV t) {m:api_MVD} (hl:U32 m.Lhs) (hr:U32 m.Rhs) {φ:Bool×Int->Prop} (hf:¬ MvP t (sN m.Lhs) (sN m.Rhs)->φ (false,0)) (hp:MvP t (sN m.Lhs) (sN m.Rhs)->φ (true,0)) :
  ∀ (d i:Nat),d+i=t.Rows.length->(∀ q k,q<i->k<t.Rows.length->(∀ a,(sN m.Lhs).testBit a=true->EqA t q k a)->MixP t (sN m.Lhs ||| sN m.Rhs) q k)->L1 t m (i:Int) φ:=by
 have na:=ht.na;have nr:=ht.nr;have hor:sN m.Lhs ||| sN m.Rhs<2^32:=Nat.or_lt_two_pow hl.lt hr.lt
 intro d
 induction d with
 | zero=>
  intro i hd hdone;apply L1_step;rw [if_neg (by omega)];exact hp fun q k hq hk=>hdone q k (by omega) hk
 | succ d ih=>
  intro i hd hdone;have hi:i<t.Rows.length:=by omega
  apply L1_step;rw [if_pos (by omega)];have inner:∀ (c k:Nat),c+k=t.Rows.length->(∀ q,q<k->(∀ a,(sN m.Lhs).testBit a=true->EqA t i q a)->MixP t (sN m.Lhs ||| sN m.Rhs) i q)->L2 t m (i:Int) (k:Int) φ:=by
   intro c
   induction c with
   | zero=>
    intro k hc hk2;apply L2_step;rw [if_neg (by omega),Aat (by omega)];refine ih (i+1) (by omega) fun q k' hq hk'=>?_;by_cases hqi:q=i
    ·subst hqi;exact hk2 k' (by omega)
    ·exact hdone q k' (by omega) hk'
   | succ c ihc=>
    intro k hc hk2;have hk:k<t.Rows.length:=by omega
    have next:((∀ a,(sN m.Lhs).testBit a=true->EqA t i k a)->MixP t (sN m.Lhs ||| sN m.Rhs) i k)->L3 t m (i:Int) (k:Int) φ:=fun hn=>by
     apply L3_step;rw [Aat (by omega)];refine ihc (k+1) (by omega) fun q hq=>?_;by_cases hqk:q=k
     ·subst hqk;exact hn
     ·exact hk2 q (by omega)
    apply L2_step;rw [if_pos (by omega)];have hag:=Aln ht hl.lt hi hk;rw [← hl.eq] at hag;refine ⟨t.Rows[i],Acl (List.getElem?_eq_getElem hi),t.Rows[k],Acl (List.getElem?_eq_getElem hk),_,hag,?_⟩;by_cases ha:Ado (t.Rows[i]).Values (t.Rows[k]).Values (sN m.Lhs)=true
    ·rw [if_pos ha,orI hl hr];obtain ⟨b,hb,hbi⟩:=q38_.spec ht hor hi hk;refine ⟨b,hb,?_⟩;by_cases hbt:b=true
     ·rw [if_pos hbt];exact next fun _=>hbi.1 hbt
     ·rw [if_neg hbt];exact hf fun h=>hbt (hbi.2 (h i k hi hk ((Ah8 ht hl.lt hi hk).1 ha)))
    ·rw [if_neg ha];exact next fun h=>absurd ((Ah8 ht hl.lt hi hk).2 h) ha
  exact inner t.Rows.length 0 rfl fun q hq=>absurd hq (Nat.not_lt_zero q)
theorem spec {t:api_Table} (ht:TV t) {m:api_MVD} (hl:U32 m.Lhs) (hr:U32 m.Rhs):C t m (Aj4 t m):=by
 have na:=ht.na;obtain ⟨r,h1,h2⟩:=enter t m (fun r=>r=Aj4 t m) (by
  refine ⟨_,q35_.spec,?_⟩;rw [if_pos (Akc.2 ht)];have hw:=q31_.spec (n:=t.Attrs.length) (x:=bOr .u32 m.Lhs m.Rhs) (by omega) (by rw [orI hl hr];exact U32.of (Nat.or_lt_two_pow hl.lt hr.lt));refine ⟨_,hw,?_⟩;unfold Aj4;have e:sN (bOr .u32 m.Lhs m.Rhs)=sN m.Lhs ||| sN m.Rhs:=by rw [orI hl hr,Bdv]
  by_cases hin:inU t.Attrs.length m.Lhs m.Rhs=true
  ·rw [if_pos (by rw [e,decide_eq_true_eq];exact Aor.1 hin),if_pos hin];refine loop ht hl hr (fun hn=>?_) (fun hy=>by rw [Aqf.2 hy]) t.Rows.length 0 rfl fun q k hq=>absurd hq (Nat.not_lt_zero q);cases hb:mvB t (sN m.Lhs) (sN m.Rhs) with
   | false=>rfl
   | true=>exact absurd (Aqf.1 hb) hn
  ·rw [if_neg (by rw [e,decide_eq_true_eq];exact fun h=>hin (Aor.2 h)),if_neg hin])
 rw [← h1];exact h2
end q39_
theorem Axt {a b:List api_Value} (hl:a.length=b.length):∀ {l:List Nat},(l.filterMap fun i=>a[i]?).length=(l.filterMap fun i=>b[i]?).length
 | []=>rfl
 | k::l=>by
  have ih:=Axt (a:=a) (b:=b) hl (l:=l);by_cases h:k<a.length
  ·have e1:=List.getElem?_eq_getElem h;have e2:=List.getElem?_eq_getElem (l:=b) (i:=k) (by omega);simp only [List.filterMap_cons,e1,e2,List.length_cons,ih]
  ·have e1:a[k]? = none:=List.getElem?_eq_none (by omega);have e2:b[k]? = none:=List.getElem?_eq_none (by omega);simp only [List.filterMap_cons,e1,e2,ih]
end Go.Own
