/- What the functions answer. No conditions. -/
import Derived.Test.YtockohmmmlhhfabGreatDoorTopTranslationsLaw12
import Derived.Test.YtockohmmmlhhfabGreatDoorTopTranslationsLaw11
set_option linter.all false
namespace Go.Own
open Go.Sort
def befL:List Int->List Int->Bool
 | [],[]=>false
 | [],_::_=>true
 | _::_,[]=>false
 | a::r,b::s=>if a=b then befL r s else decide (a<b)
theorem Ads:∀ (x:List Int),befL x x=false
 | []=>rfl
 | a::r=>by rw [befL,if_pos rfl];exact Ads r
theorem Al2:∀ {x y:List Int},befL x y=false->befL y x=false->x=y
 | [],[],_,_=>rfl
 | [],_::_,h,_=>by cases h
 | _::_,[],_,h=>by cases h
 | a::r,b::s,h,k=>by
  simp only [befL] at h k;by_cases e:a=b
  ·subst e;rw [if_pos rfl] at h k;rw [Al2 h k]
  ·rw [if_neg e,decide_eq_false_iff_not] at h;rw [if_neg (Ne.symm e),decide_eq_false_iff_not] at k;omega
theorem Aka:∀ (x y z:List Int),befL x y=true->befL y z=true->befL x z=true
 | [],[],_,h,_=>by cases h
 | [],_::_,[],_,h=>by cases h
 | [],_::_,_::_,_,_=>rfl
 | _::_,[],_,h,_=>by cases h
 | _::_,_::_,[],_,h=>by cases h
 | a::r,b::s,c::t,h,k=>by
  simp only [befL] at h k ⊢;by_cases e:a=b
  ·subst e;rw [if_pos rfl] at h;by_cases e2:a=c
   ·rw [if_pos e2] at k ⊢;exact Aka _ _ _ h k
   ·rw [if_neg e2] at k ⊢;exact k
  ·rw [if_neg e,decide_eq_true_eq] at h;by_cases e2:b=c
   ·subst e2;rw [if_neg e,decide_eq_true_eq];exact h
   ·rw [if_neg e2,decide_eq_true_eq] at k;rw [if_neg (by omega),decide_eq_true_eq];omega
theorem Bak:SWO befL:=by
 refine ⟨Ads,Aka,fun x y z h k=>?_⟩;cases e:befL x z with
 | false=>rfl
 | true=>
  cases e2:befL y x with
  | true=>rw [Aka _ _ _ e2 e] at k;cases k
  | false=>
   have:=Al2 h e2;subst this;rw [e] at k;cases k
theorem q49_.spec {x y:List Int} (hx:x.length<=1000) (hy:y.length<=1000):q49_.C x y (befL x y):=by
 obtain ⟨r,h1,h2⟩:=q49_.enter x y (fun r=>r=befL x y) (by
  have go:∀ (p q:List Int) (k:Nat),x.drop k=p->y.drop k=q->k<=x.length->k<=y.length->befL p q=befL x y->q49_.L1 x y k fun r=>r=befL x y:=by
   intro p
   induction p with
   | nil=>
    intro q k hd he kx ky h;have hge:=Abg hd;apply q49_.L1_step;rw [if_neg (by omega)];apply q49_.L2_step;rw [← h];have hl:q.length=y.length-k:=by rw [← he,List.length_drop]
    cases q with
    | nil=>simp only [befL,decide_eq_false_iff_not];simp only [List.length_nil] at hl;omega
    | cons b q=>simp only [befL,decide_eq_true_eq];simp only [List.length_cons] at hl;omega
   | cons a p ih=>
    intro q k hd he kx ky h;have hlt:=Abh hd;apply q49_.L1_step;rw [if_pos (by omega)];cases q with
    | nil=>
     have hge:=Abg he;rw [if_neg (by omega)];apply q49_.L2_step;rw [← h];simp only [befL,decide_eq_false_iff_not];omega
    | cons b q=>
     have hlt2:=Abh he;rw [if_pos (by omega)];refine ⟨a,Ac0 hd,b,Ac0 he,?_⟩;simp only [befL] at h
     split
     ·rename_i e;rw [if_pos e] at h;rw [Aa6 (by omega)];exact ih q (k+1) (Aah hd) (Aah he) (by omega) (by omega) h
     ·rename_i e;rw [if_neg e] at h;exact h
  exact go x y 0 rfl rfl (by omega) (by omega) rfl)
 rw [← h1];exact h2
theorem Apd {x y:List Int} (hx:x.length<=1000) (hy:y.length<=1000):∃ r,q30_.C x y r/\(r<0↔befL x y=true):=by
 obtain ⟨r,h1,h2⟩:=q30_.enter x y (fun r=>r<0↔befL x y=true) (by
  have go:∀ (p q:List Int) (k:Nat),x.drop k=p->y.drop k=q->k<=x.length->k<=y.length->befL p q=befL x y->q30_.L1 x y k fun r=>r<0↔befL x y=true:=by
   intro p
   induction p with
   | nil=>
    intro q k hd he kx ky h;have hge:=Abg hd;apply q30_.L1_step;rw [if_neg (by omega),← h];have hl:q.length=y.length-k:=by rw [← he,List.length_drop]
    cases q with
    | nil=>simp only [List.length_nil] at hl;rw [if_neg (by omega)];simp [befL]
    | cons b q=>simp only [List.length_cons] at hl;rw [if_pos (by omega)];simp [befL]
   | cons a p ih=>
    intro q k hd he kx ky h;have hlt:=Abh hd;apply q30_.L1_step;rw [if_pos (by omega)];refine ⟨a,Ac0 hd,?_⟩;cases q with
    | nil=>
     have hge:=Abg he;rw [if_pos (by omega),← h];simp [befL]
    | cons b q=>
     have hlt2:=Abh he;rw [if_neg (by omega)];refine ⟨b,Ac0 he,_,Alx,?_⟩;simp only [befL] at h;by_cases e:a=b
     ·subst e;rw [if_pos rfl] at h;rw [if_pos (by unfold cmpI;simp),Aa6 (by omega)];exact ih q (k+1) (Aah hd) (Aah he) (by omega) (by omega) h
     ·rw [if_neg e] at h;rw [← h,if_neg (show ¬ cmpI a b=0 from fun hh=>e (Aby.1 hh))];unfold cmpI
      split
      ·rename_i h3;simp [h3]
      ·rename_i h3;rw [if_pos (by omega)];simp;omega
  exact go x y 0 rfl rfl (by omega) (by omega) rfl)
 exact ⟨r,h2,h1⟩
theorem Bh5 {l:List (List Int)} (hl:l.length<4611686018427387904) (hp:∀ x∈l,x.length<=1000):∃ r,q9_.C l r/\r.Perm l/\r.Pairwise (fun a b=>befL b a=false):=
 q9_.spec (p:=fun x=>x.length<=1000) (lt:=befL) (fun _ _ hx hy=>Apd hx hy) Bak hl hp
def StrL (l:List (List Int)):Prop:=l.Pairwise fun a b=>befL a b=true
theorem Aoq:∀ {a b:List (List Int)},StrL a->StrL b->(∀ x,x∈a↔x∈b)->a=b
 | [],[],_,_,_=>rfl
 | [],y::b,_,_,h=>by have:=(h y).2 (by simp);simp at this
 | x::a,[],_,_,h=>by have:=(h x).1 (by simp);simp at this
 | x::a,y::b,ha,hb,h=>by
  have ha':=List.pairwise_cons.1 ha;have hb':=List.pairwise_cons.1 hb;have e:x=y:=by
   have hx:=(h x).1 (by simp);have hy:=(h y).2 (by simp);rw [List.mem_cons] at hx hy;rcases hx with hx | hx
   ·exact hx
   ·rcases hy with hy | hy
    ·exact hy.symm
    ·have:=Aka _ _ _ (ha'.1 y hy) (hb'.1 x hx);rw [Ads] at this;cases this
  subst e;congr 1;refine Aoq ha'.2 hb'.2 fun z=>⟨fun hz=>?_,fun hz=>?_⟩
  ·have:=(h z).1 (by simp [hz]);rw [List.mem_cons] at this;rcases this with rfl | this
   ·have:=ha'.1 z hz;rw [Ads] at this;cases this
   ·exact this
  ·have:=(h z).2 (by simp [hz]);rw [List.mem_cons] at this;rcases this with rfl | this
   ·have:=hb'.1 z hz;rw [Ads] at this;cases this
   ·exact this
open D
theorem Bgl {α:Type} {A B:List α} {a x:α}:lset (lset (A++a::x::B) ((A.length+1:Nat):Int) a) (A.length:Int) x=A++x::a::B:=by
 unfold lset;rw [Int.toNat_natCast,Int.toNat_natCast];rw [List.set_append,if_neg (by omega),show A.length+1-A.length=1 by omega];rw [List.set_append,if_neg (by omega),Nat.sub_self];rfl
theorem q70_.spec {l:List (List Int)} {x:List Int} (hl:l.length<=100000) (hx:x.length<=1000) (hp:∀ y∈l,y.length<=1000) (hs:StrL l):∃ r,q70_.C x l r/\StrL r/\r.length<=l.length+1/\∀ y,y∈r↔y∈l∨y=x:=by
 have bub:x ∉ l->∀ (n:Nat) (A B:List (List Int)),A.length=n->A++B=l->(∀ b∈B,befL x b=true)->q70_.L3 (A++x::B) (n:Int) fun r=>StrL r/\r.length<=l.length+1/\∀ y,y∈r↔y∈l∨y=x:=by
  intro hnx n;have fin:∀ (A B:List (List Int)),A++B=l->(∀ b∈B,befL x b=true)->(∀ a∈A,befL a x=true)->StrL (A++x::B)/\(A++x::B).length<=l.length+1/\∀ y,y∈A++x::B↔y∈l∨y=x:=by
   intro A B e hB hA;subst e;refine ⟨?_,by simp only [List.length_append,List.length_cons];omega,fun y=>?_⟩
   ·unfold StrL at hs ⊢;rw [List.pairwise_append] at hs ⊢;refine ⟨hs.1,List.pairwise_cons.2 ⟨hB,hs.2.1⟩,fun a ha b hb=>?_⟩;rcases List.mem_cons.1 hb with rfl | hb
    ·exact hA a ha
    ·exact hs.2.2 a ha b hb
   ·simp only [List.mem_append,List.mem_cons];constructor
    ·rintro (h | h | h)
     ·exact .inl (.inl h)
     ·exact .inr h
     ·exact .inl (.inr h)
    ·rintro ((h | h) | h)
     ·exact .inl h
     ·exact .inr (.inr h)
     ·exact .inr (.inl h)
  induction n with
  | zero=>
   intro A B hA e hB;apply q70_.L3_step;rw [if_neg (by omega)];exact fin A B e hB fun a ha=>by rw [List.length_eq_zero_iff.1 hA] at ha;cases ha
  | succ n ih=>
   intro A B hA e hB;obtain ⟨A',a,rfl⟩:∃ A' a,A=A'++[a]:=by
    rcases List.eq_nil_or_concat A with h | ⟨A',a,h⟩
    ·subst h;cases hA
    ·exact ⟨A',a,by simpa using h⟩
   have hA':A'.length=n:=by simpa using hA
   have el:l.length=A'.length+1+B.length:=by rw [← e];simp;omega
   have e1:A'++[a]++x::B=A'++a::x::B:=by simp
   have hal:a∈l:=by rw [← e];simp
   rw [e1];apply q70_.L3_step;have ew:IntKind.wrap .i64 (((n+1:Nat):Int)-1)=(n:Int):=by rw [Abw (by omega) (by omega)];omega
   rw [if_pos (by omega),ew];refine ⟨x,by rw [Af1,← hA'];simp,a,by rw [Af1,← hA'];simp,_,q49_.spec hx (hp a hal),?_⟩;cases hb:befL x a with
   | true=>
    rw [if_pos rfl];have sw:=Bgl (A:=A') (B:=B) (a:=a) (x:=x);rw [hA'] at sw;rw [sw];refine ⟨a,?_,ih A' (a::B) hA' (by rw [← e];simp) fun b hbm=>?_⟩
    ·unfold lset;rw [Af1,Int.toNat_natCast,List.set_append,if_neg (by omega),List.getElem?_append_right (by omega),hA',Nat.sub_self,show n+1-n=1 by omega];rfl
    ·rcases List.mem_cons.1 hbm with rfl | hbm
     ·exact hb
     ·exact hB b hbm
   | false=>
    rw [if_neg Bool.false_ne_true,← e1];refine fin (A'++[a]) B e hB fun y hy=>?_;have hax:befL a x=true:=by
     cases h2:befL a x with
     | true=>rfl
     | false=>exact absurd (Al2 h2 hb) fun h=>hnx (h ▸ hal)
    rw [List.mem_append,List.mem_singleton] at hy;rcases hy with hy | rfl
    ·refine Aka _ _ _ ?_ hax;rw [← e] at hs;unfold StrL at hs;exact (List.pairwise_append.1 (List.pairwise_append.1 hs).1).2.2 y hy a (by simp)
    ·exact hax
 have go:∀ (r:List (List Int)) (k:Nat),l.drop k=r->(∀ y∈l.take k,y≠x)->q70_.L1 l x k fun r=>StrL r/\r.length<=l.length+1/\∀ y,y∈r↔y∈l∨y=x:=by
  intro r
  induction r with
  | nil=>
   intro k hd hn;have hge:=Abg hd;rw [List.take_of_length_le hge] at hn;apply q70_.L1_step;rw [if_neg (by omega)];refine ⟨by omega,?_⟩;rw [Abw (by simp only [List.length_append,List.length_singleton];omega) (by simp only [List.length_append,List.length_singleton];omega)];have:=bub (fun h=>hn x h rfl) l.length l [] rfl (by simp) (by simp);rw [show (((l++[x]).length:Nat):Int)-1=(l.length:Int) by simp only [List.length_append,List.length_singleton];omega];exact this
  | cons a r ih=>
   intro k hd hn;have hlt:=Abh hd;have hal:a∈l:=List.mem_of_getElem? (Aas hd);have next:a≠x->q70_.L2 l x k fun r=>StrL r/\r.length<=l.length+1/\∀ y,y∈r↔y∈l∨y=x:=fun hne=>by
    apply q70_.L2_step;rw [Aa6 (by omega)];refine ih (k+1) (Aah hd) fun y hy=>?_;rw [List.take_add_one,Aas hd,List.mem_append] at hy;rcases hy with hy | hy
    ·exact hn y hy
    ·simp only [Option.toList_some,List.mem_singleton] at hy;rw [hy];exact hne
   apply q70_.L1_step;rw [if_pos (by omega)];refine ⟨a,Ac0 hd,_,q49_.spec (hp a hal) hx,?_⟩
   split
   ·rename_i h;exact next fun he=>by rw [he,Ads] at h;cases h
   ·rename_i h;refine ⟨_,q49_.spec hx (hp a hal),?_⟩
    split
    ·rename_i h2;exact next fun he=>by rw [he,Ads] at h2;cases h2
    ·rename_i h2;have e:=Al2 (Bool.eq_false_iff.2 h) (Bool.eq_false_iff.2 h2);refine ⟨hs,by omega,fun y=>⟨.inl,?_⟩⟩;rintro (h | rfl)
     ·exact h
     ·exact e ▸ hal
 obtain ⟨r,h1,h2⟩:=q70_.enter x l (fun r=>StrL r/\r.length<=l.length+1/\∀ y,y∈r↔y∈l∨y=x) (go l 0 rfl (by simp));exact ⟨r,h2,h1⟩
theorem Bgh {x y:Int}:q72_.C x y (decide (x<y)):=by
 obtain ⟨r,h1,h2⟩:=q72_.enter x y (fun r=>r=decide (x<y)) ⟨_,Amn,by rw [if_neg Bool.false_ne_true]⟩;rw [← h1];exact h2
def srt2:List Int->List Int
 | [x,y]=>if y<x then [y,x] else [x,y]
 | l=>l
theorem Adv {x y:Int}:srt2 [x,y]=if y<x then [y,x] else [x,y]:=rfl
theorem Av9:∀ {l:List Int},(srt2 l).length=l.length
 | []=>rfl
 | [_]=>rfl
 | [x,y]=>by rw [Adv];split<;>rfl
 | _::_::_::_=>rfl
theorem Bgk {l:List Int} (hl:l.length=1∨l.length=2):q34_.C l (srt2 l):=by
 have ins:q27_.L1 0 l.length 1 l fun r=>r=srt2 l:=by
  match l,hl with
  | [x],_=>
   apply q27_.L1_step;rw [if_neg (by simp)];rfl
  | [x,y],_=>
   have e0:IntKind.wrap .i64 ((1:Int)-1)=0:=by decide
   have e1:IntKind.wrap .i64 ((1:Int)+1)=2:=by decide
   have fin:∀ m:List Int,m=srt2 [x,y]->q27_.L3 0 (([x,y]:List Int).length:Nat) 1 m fun r=>r=srt2 [x,y]:=fun m hm=>by
    apply q27_.L3_step;rw [e1];apply q27_.L1_step;rw [if_neg (by simp)];exact hm
   apply q27_.L1_step;rw [if_pos (by simp)];apply q27_.L2_step;rw [if_pos (by omega),e0];refine ⟨y,rfl,x,rfl,_,Bgh,?_⟩;by_cases h:y<x
   ·rw [if_pos (decide_eq_true h)];refine ⟨x,rfl,?_⟩;apply q27_.L2_step;rw [if_neg (by omega)];exact fin _ (by rw [Adv,if_pos h];rfl)
   ·rw [if_neg (by simpa using h)];exact fin _ (by rw [Adv,if_neg h])
 obtain ⟨r1,g1,k1⟩:=q27_.enter 0 (l.length:Int) l (fun r=>r=srt2 l) (by
  have:IntKind.wrap .i64 ((0:Int)+1)=1:=by decide
  rw [this];exact ins)
 subst g1;obtain ⟨s,c,_,_⟩:=q78_.spec (x:=l.length) (by omega);obtain ⟨r2,g2,k2⟩:=q32_.enter 0 (l.length:Int) s l (fun r=>r=srt2 l) (by
  apply q32_.L1_step;rw [Abw (by omega) (by omega),if_pos (by omega)]
  exact ⟨_,k1,rfl⟩)
 subst g2;obtain ⟨r3,g3,k3⟩:=q34_.enter l (fun r=>r=srt2 l) (by
  have e:IntKind.wrap .u64 (l.length:Int)=(l.length:Int):=by
   rw [show (IntKind.wrap .u64 (l.length:Int))=(l.length:Int) % 18446744073709551616 from by simp [IntKind.wrap,IntKind.bits,IntKind.signed]];omega
  rw [e]
  exact ⟨_,c,_,k2,rfl⟩)
 rw [← g3];exact k3
def Aqu (rs:List api_Row) (i:Nat):api_Row:=(rs[i]?).getD ⟨0,[]⟩
def valT (rs:List api_Row) (t:api_Term):api_Value:=if t.Var=0 then t.Value else vAt (Aqu rs (t.Var-1).toNat) t.Attr.toNat
def Am8 (n v:Nat) (t:api_Term):Prop:=t.Var=0∨(1<=t.Var/\t.Var<=v/\0<=t.Attr/\t.Attr<n)
def Afj (n v:Nat) (a:api_Atom):Prop:=Am8 n v a.Left/\Am8 n v a.Right
def opK (op c:Int):Bool:=if op=1 then c == 0 else if op=2 then c != 0 else if op=3 then decide (c<0) else if op=4 then decide (c<=0) else false
def satK (rs:List api_Row) (l:List api_Atom):Bool:=l.all fun a=>opK a.Op (cmpV (valT rs a.Left) (valT rs a.Right))
theorem q94_.spec {rs:List api_Row} {t:api_Term} {n:Nat} (hv:∀ r∈rs,r.Values.length=n) (hl:rs.length<=1000) (ht:Am8 n rs.length t):q94_.C rs t (valT rs t):=by
 obtain ⟨q,h1,h2⟩:=q94_.enter rs t (fun q=>q=valT rs t) (by
  unfold valT
  split
  ·rfl
  ·rename_i h0;rcases ht with h | ⟨a,b,c,d⟩
   ·exact absurd h h0
   have e1:IntKind.wrap .i64 (t.Var-1)=(((t.Var-1).toNat:Nat):Int):=by rw [Abw (by omega) (by omega)];omega
   have e2:t.Attr=((t.Attr.toNat:Nat):Int):=by omega
   have hi:(t.Var-1).toNat<rs.length:=by omega
   have hr:rs[(t.Var-1).toNat]? = some (Aqu rs (t.Var-1).toNat):=by unfold Aqu;rw [List.getElem?_eq_getElem hi];rfl
   have hm:=hv _ (List.mem_of_getElem? hr);refine ⟨Aqu rs (t.Var-1).toNat,by rw [e1,Af1];exact hr,vAt (Aqu rs (t.Var-1).toNat) t.Attr.toNat,?_,rfl⟩;rw [e2,Af1,Int.toNat_natCast]
   exact Ah0 (by omega))
 rw [← h1];exact h2
theorem q55_.spec {rs:List api_Row} {l:List api_Atom} {n:Nat} (hv:∀ r∈rs,r.Values.length=n) (hr:rs.length<=1000) (hl:l.length<=1000) (ha:∀ a∈l,Afj n rs.length a):q55_.C rs l (satK rs l):=by
 obtain ⟨q,h1,h2⟩:=q55_.enter rs l (fun q=>q=satK rs l) (by
  refine Aos (l:=l) (p:=fun a=>opK a.Op (cmpV (valT rs a.Left) (valT rs a.Right))) (L:=fun i=>q55_.L1 rs l i fun q=>q=satK rs l) (φ:=fun b=>b=satK rs l) ?_ ?_ rfl
  ·intro h;apply q55_.L1_step;rw [if_neg (by omega)];exact h
  ·intro k a hk hlt h;have ok:=ha a (List.mem_of_getElem? hk);have two:∀ b:Bool,b=opK a.Op (cmpV (valT rs a.Left) (valT rs a.Right))->q55_.L2 rs l b k fun q=>q=satK rs l:=fun b hb=>by
    apply q55_.L2_step;rw [hb,Aa6 (by omega)];exact h
   apply q55_.L1_step;rw [if_pos (by omega)];refine ⟨a,Aap hk,_,q94_.spec hv hr ok.1,_,q94_.spec hv hr ok.2,_,q80_.spec,?_⟩;unfold opK at two
   split
   ·rename_i e;rw [if_pos e] at two;exact two _ rfl
   ·rename_i e;rw [if_neg e] at two
    split
    ·rename_i e;rw [if_pos e] at two;exact two _ rfl
    ·rename_i e;rw [if_neg e] at two
     split
     ·rename_i e;rw [if_pos e] at two;exact two _ rfl
     ·rename_i e;rw [if_neg e] at two
      split
      ·rename_i e;rw [if_pos e] at two;exact two _ rfl
      ·rename_i e;rw [if_neg e] at two;exact two _ rfl)
 rw [← h1];exact h2
theorem Be4 {rs:List api_Row} {i:Int} {vs:List api_Value} (hl:rs.length<=1000):q19_.C rs i vs (rs.any fun r=>r.ID == i):=by
 have one:∀ r:api_Row,q73_.C r i vs (r.ID == i):=fun r=>by
  obtain ⟨q,h1,h2⟩:=q73_.enter r i vs (fun q=>q=(r.ID == i)) rfl;rw [← h1];exact h2
 obtain ⟨q,h1,h2⟩:=q21_.enter rs i vs (fun q=>decide (0<=q)=rs.any fun r=>r.ID == i) (by
  have go:∀ (r:List api_Row) (k:Nat),rs.drop k=r->(rs.any fun r=>r.ID == i)=(r.any fun r=>r.ID == i)->q21_.L1 rs i vs k fun q=>decide (0<=q)=rs.any fun r=>r.ID == i:=by
   intro r
   induction r with
   | nil=>
    intro k hd h;have hge:=Abg hd;apply q21_.L1_step;rw [if_neg (by omega),h];rfl
   | cons a r ih=>
    intro k hd h;have hlt:=Abh hd;apply q21_.L1_step;rw [if_pos (by omega)];refine ⟨a,Ac0 hd,_,one a,?_⟩;rw [List.any_cons] at h
    split
    ·rename_i e;rw [h,e];simp
    ·rename_i e;rw [Bool.eq_false_iff.2 e,Bool.false_or] at h;rw [Aa6 (by omega)];exact ih (k+1) (Aah hd) h
  exact go rs 0 rfl rfl)
 obtain ⟨p,g1,g2⟩:=q19_.enter rs i vs (fun q=>q=rs.any fun r=>r.ID == i) ⟨q,h2,h1⟩;rw [← g1];exact g2
open D
theorem At3 {E:Env} {f:Nat} {p:List D->Option (D×List D)} {q:List D->Ask} {ds:List D} {r:D} {outs:List D} (h1:E.prim f=some p) (h2:p ds=none) (h3:E.hand f=some q) (h4:∃ N,∀ n,N<=n->runAsk (Ab8 E n) (q ds)=some (r,outs)):Ret E f ds r outs:=by
 obtain ⟨N,hN⟩:=h4;refine ⟨N+1,fun m hm=>?_⟩;obtain ⟨k,rfl⟩:∃ k,m=k+1:=⟨m-1,by omega⟩
 simp only [Ab8,h1,h2,h3];exact hN k (by omega)
def rpV (r:api_Row):RowP:=(r.ID,r.Values.map Aa3)
theorem rpD {rs:List api_Row}:(rs.map rpV).map rowD=rs.map Aa2:=by rw [List.map_map];rfl
theorem rpI {rs:List api_Row}:(rs.map rpV).map (·.1)=rs.map api_Row.ID:=by rw [List.map_map];rfl
abbrev Apl:=List (K3×Bool)
structure GoodV (n:Nat) (m:Apl) (o:List (List Int)):Prop where
 len:∀ x∈o,x.length=n
 mem:∀ x:List Int,x.length=n->(Ajl (key3 x) m false=true↔x∈o)
theorem Bay {n:Nat} (hn:n=1∨n=2) {x y:List Int} (hx:x.length=n) (hy:y.length=n) (h:key3 x=key3 y):x=y:=by
 rcases hn with rfl | rfl
 ·match x,y,hx,hy with
  | [a],[b],_,_=>simp only [key3,Prod.mk.injEq,and_true] at h;rw [h]
 ·match x,y,hx,hy with
  | [a,a'],[b,b'],_,_=>simp only [key3,Prod.mk.injEq,and_true] at h;rw [h.1,h.2]
theorem Bdu {n:Nat} (hn:n=1∨n=2) {ids:List Int} {m:Apl} {o:List (List Int)} (hi:ids.length=n) (hg:GoodV n m o) (ho:o.length+1<=20000) :
  (visF ids m o).1=true/\GoodV n (visF ids m o).2.1 (visF ids m o).2.2/\(visF ids m o).2.2.length<=o.length+1/\∀ x,x∈(visF ids m o).2.2↔x∈o∨x=ids:=by
 unfold visF
 split
 ·rename_i h;have hm:=(hg.mem ids hi).1 h;refine ⟨by simp;omega,hg,by simp,fun x=>⟨.inl,?_⟩⟩;rintro (h | rfl)
  ·exact h
  ·exact hm
 ·refine ⟨by simp;omega,⟨?_,fun x hx=>?_⟩,by simp,fun x=>by simp⟩
  ·intro x hx;rw [List.mem_append,List.mem_singleton] at hx;rcases hx with hx | rfl
   ·exact hg.len x hx
   ·exact hi
  ·have e:Ajl (key3 x) (mset (key3 ids) true m) false=if key3 ids=key3 x then true else Ajl (key3 x) m false:=by
    unfold Ajl;rw [Asy]
    split<;>rfl
   rw [e,List.mem_append,List.mem_singleton]
   split
   ·rename_i h;simp only [true_iff];exact .inr (Bay hn hx hi h.symm)
   ·rename_i h;rw [hg.mem x hx];constructor
    ·exact .inl
    ·rintro (h2 | rfl)
     ·exact h2
     ·exact absurd rfl h
def GoV (n c:Nat) (S:List Int->Prop) (step:D->D->(VRes->Ask)->Ask):Prop:=
 ∀ (m:Apl) (o:List (List Int)),GoodV n m o->o.length+c<=20000->∃ (m':Apl) (o':List (List Int)),GoodV n m' o'/\o'.length<=o.length+c/\(∀ x,x∈o'↔x∈o∨S x) /\
  ∃ N,∀ j,N<=j->∀ k,runAsk (Ab8 env j) (step (.box [Abd m]) (.box [outE o]) k)=runAsk (Ab8 env j) (k (true,.box [Abd m'],.box [outE o']))
theorem Ayh {rs:List api_Row} {m:Apl} {o:List (List Int)} (hl:rs.length=1∨rs.length=2) (ho:o.length<=20000) :
  Ret env visG [.sl (rs.map Aa2),.box [Abd m],.box [outE o]] (.lit (.bool (visF (srt2 (rs.map api_Row.ID)) m o).1)) [.box [Abd (visF (srt2 (rs.map api_Row.ID)) m o).2.1],.box [outE (visF (srt2 (rs.map api_Row.ID)) m o).2.2]]:=by
 obtain ⟨N,hN⟩:=Bgk (l:=rs.map api_Row.ID) (by simpa using hl);have hN:∀ j,N<=j->Ab8 env j vioS [idsD (rs.map api_Row.ID)]=some (.tup [],[idsD (srt2 (rs.map api_Row.ID))]):=fun j hj=>hN j hj;refine At3 (p:=fun _=>none) (q:=Ai9 vioS) (by kernel_rfl) rfl (by kernel_rfl) ⟨N,fun j hj=>?_⟩;rw [← rpD];have e1:=Afu (rs.map rpV);have e2:=Aqx m;have e3:=Alo o;have e4:=Aln (srt2 (rs.map api_Row.ID));have hs:=Av9 (l:=rs.map api_Row.ID);simp only [Ai9,Abd,outE,e1,e2,e3];rw [if_pos ⟨by simpa using hl,by omega⟩,rpI];simp only [runAsk];rw [hN j hj];simp only [idsD,e4];rw [if_pos (by rw [hs];simp)];rfl
theorem Awl {rs:List api_Row} {l:List api_Atom} {n w:Nat} (hl:rs.length=n) (hn:n=1∨n=2) (hv:∀ r∈rs,r.Values.length=w) (hll:l.length<=1000) (ha:∀ a∈l,Afj w n a) :
  GoV n 1 (fun x=>satK rs l=true/\x=srt2 (rs.map api_Row.ID)) (Anq vioQ (l.map Aa4) (rs.map rpV)):=by
 intro m o hg ho;obtain ⟨N,hN⟩:=q55_.spec (rs:=rs) (l:=l) hv (by omega) hll (by rw [hl];exact ha);have hN:∀ j,N<=j->Ab8 env j vioQ.sat [.sl ((rs.map rpV).map rowD),.sl (l.map Aa4)]=some (.lit (.bool (satK rs l)),[]):=fun j hj=>by rw [rpD];exact hN j hj
 cases hb:satK rs l with
 | false=>
  rw [hb] at hN;refine ⟨m,o,hg,by omega,fun x=>⟨.inl,?_⟩,N,fun j hj k=>?_⟩
  ·rintro (h | ⟨h,_⟩)
   ·exact h
   ·cases h
  ·simp only [Anq,runAsk];rw [hN j hj]
 | true=>
  rw [hb] at hN;have hi:(srt2 (rs.map api_Row.ID)).length=n:=by rw [Av9];simpa using hl
  obtain ⟨v1,v2,v3,v4⟩:=Bdu hn hi hg ho;obtain ⟨N2,hN2⟩:=Ayh (rs:=rs) (m:=m) (o:=o) (by omega) (by omega);rw [v1] at hN2;have hN2:∀ j,N2<=j->Ab8 env j vioQ.vis [.sl ((rs.map rpV).map rowD),.box [Abd m],.box [outE o]]=some (.lit (.bool true),[.box [Abd (visF (srt2 (rs.map api_Row.ID)) m o).2.1],.box [outE (visF (srt2 (rs.map api_Row.ID)) m o).2.2]]):=fun j hj=>by rw [rpD];exact hN2 j hj
  refine ⟨_,_,v2,v3,fun x=>?_,N+N2,fun j hj k=>?_⟩
  ·rw [v4 x];simp
  ·simp only [Anq,runAsk];rw [hN j (by omega)];simp only [runAsk];rw [hN2 j (by omega)];rfl
theorem Axa {rs:List api_Row} (hl:rs.length<=1000):Ret env vioQ.cn [.sl (rs.map Aa2)] (.own (rs.map Aa2)) []:=
 Azt (k:=2) (b:=32) (by kernel_rfl) (fun _=>rfl) (by omega)
def inV (rs:List api_Row) (r:api_Row):Bool:=rs.any fun q=>q.ID == r.ID
theorem Ann {rs:List api_Row} {n c:Nat} {S:api_Row->List Int->Prop} {step:List RowP->D->D->(VRes->Ask)->Ask} (hl:rs.length<=900):∀ (todo:List api_Row),
  (∀ r∈todo,inV rs r=false->GoV n c (S r) (step ((rs++[r]).map rpV)))->GoV n (todo.length*c) (fun x=>∃ r∈todo,inV rs r=false/\S r x) (Ajj vioQ step (rs.map rpV) (todo.map rpV))
 | [],_=>fun m o hg ho=>⟨m,o,hg,by omega,fun x=>by simp,0,fun j _ k=>rfl⟩
 | r::todo,h=>by
  intro m o hg ho;have ih:=Ann (S:=S) hl todo fun q hq=>h q (by simp [hq]);have e0:(r::todo).length*c=todo.length*c+c:=by rw [List.length_cons,Nat.succ_mul]
  rw [e0] at ho ⊢;obtain ⟨N,hN⟩:=Be4 (rs:=rs) (i:=r.ID) (vs:=r.Values) (by omega);have hN:∀ j,N<=j->Ab8 env j vioQ.cf [.sl ((rs.map rpV).map rowD),.fn vioQ.cl [.ref (rowD (rpV r))]]=some (.lit (.bool (inV rs r)),[]):=fun j hj=>by rw [rpD];exact hN j hj
  cases hb:inV rs r with
  | true=>
   rw [hb] at hN;obtain ⟨m',o',g,l',me,N2,hN2⟩:=ih m o hg (by omega);refine ⟨m',o',g,by omega,fun x=>?_,N+N2,fun j hj k=>?_⟩
   ·rw [me x];simp only [List.mem_cons,exists_eq_or_imp,hb,Bool.true_eq_false,false_and,false_or]
   ·simp only [List.map_cons,Ajj,runAsk];rw [hN j (by omega)];exact hN2 j (by omega) k
  | false=>
   rw [hb] at hN;obtain ⟨N3,hN3⟩:=Axa (rs:=rs) (by omega);have hN3:∀ j,N3<=j->Ab8 env j vioQ.cn [.sl ((rs.map rpV).map rowD)]=some (.own ((rs.map rpV).map rowD),[]):=fun j hj=>by rw [rpD];exact hN3 j hj
   obtain ⟨m1,o1,g1,l1,me1,N1,hN1⟩:=h r (by simp) hb m o hg (by omega);obtain ⟨m',o',g,l',me,N2,hN2⟩:=ih m1 o1 g1 (by omega);refine ⟨m',o',g,by omega,fun x=>?_,N+N2+N1+N3,fun j hj k=>?_⟩
   ·rw [me x,me1 x];simp only [List.mem_cons,exists_eq_or_imp,hb,true_and,or_assoc]
   ·simp only [List.map_cons,Ajj,runAsk];rw [hN j (by omega)];simp only [runAsk];rw [hN3 j (by omega)];simp only [Afu,if_true];have e1:rs.map rpV++[rpV r]=(rs++[r]).map rpV:=by simp
    rw [e1,hN1 j (by omega)];simp only [if_true];exact hN2 j (by omega) k
def VioS (t:api_Table) (d:api_Denial) (x:List Int):Prop:=
 if d.Vars=1 then ∃ r∈t.Rows,satK [r] d.Atoms=true/\x=[r.ID]
 else ∃ r∈t.Rows,∃ s∈t.Rows,s.ID≠r.ID/\satK [r,s] d.Atoms=true/\x=srt2 [r.ID,s.ID]
theorem q50_.spec {t:api_Table} {d:api_Denial} (hT:TV t) (h10:t.Rows.length<=10) (hd:d.Vars=1∨d.Vars=2) (hll:d.Atoms.length<=20) (ha:∀ a∈d.Atoms,Afj t.Attrs.length d.Vars.toNat a) (hk:q75_.C t d 0) :
  ∃ r,q50_.C t d r/\r.2=0/\(∀ x,x∈r.1↔VioS t d x)/\(∀ x∈r.1,x.length<=2)/\r.1.length<=100:=by
 obtain ⟨N,hN⟩:=hk;have hN:∀ j,N<=j->Ab8 env j vioQ.chk [.agg [.lit (.string t.Name),.sl (t.Attrs.map eS),.sl (t.Rows.map Aa2)],.agg [.lit (.int .i64 d.Vars),.sl (d.Atoms.map Aa4)]]=some (.lit (.int .i64 0),[]):=fun j hj=>hN j hj;have hv:∀ r∈t.Rows,r.Values.length=t.Attrs.length:=fun r hr=>hT.len hr;have g0:∀ n,GoodV n [] []:=fun n=>⟨by simp,fun x hx=>by simp [Ajl,mget]⟩
 have main:∃ n c:Nat,d.Vars=n/\c<=100/\n<=2/\1<=n/\GoV n c (VioS t d) (Aj5 vioQ (d.Atoms.map Aa4) (t.Rows.map rpV) n []):=by
  rcases hd with hd | hd
  ·refine ⟨1,t.Rows.length*1,hd,by omega,by omega,by omega,?_⟩;have:=Ann (rs:=[]) (n:=1) (c:=1) (S:=fun r x=>satK [r] d.Atoms=true/\x=srt2 ([r].map api_Row.ID)) (step:=Aj5 vioQ (d.Atoms.map Aa4) (t.Rows.map rpV) 0) (by simp) t.Rows fun r hr _=>Awl (w:=t.Attrs.length) rfl (.inl rfl) (by simpa using hv r hr) (by omega) (by rw [hd] at ha;exact ha);intro m o hg ho;obtain ⟨m',o',a,b,c,e⟩:=this m o hg ho;refine ⟨m',o',a,b,fun x=>?_,e⟩;rw [c x];unfold VioS;rw [if_pos hd];have:∀ r,inV [] r=false:=fun _=>rfl;simp only [this,true_and];exact Iff.rfl
  ·refine ⟨2,t.Rows.length*(t.Rows.length*1),hd,?_,by omega,by omega,?_⟩
   ·have:=Nat.mul_le_mul h10 h10;rw [Nat.mul_one];exact this
   have:=Ann (rs:=[]) (n:=2) (c:=t.Rows.length*1) (S:=fun r x=>∃ s∈t.Rows,inV [r] s=false/\(satK [r,s] d.Atoms=true/\x=srt2 ([r,s].map api_Row.ID))) (step:=Aj5 vioQ (d.Atoms.map Aa4) (t.Rows.map rpV) 1) (by simp) t.Rows fun r hr _=>
    Ann (rs:=[r]) (n:=2) (c:=1) (S:=fun s x=>satK [r,s] d.Atoms=true/\x=srt2 ([r,s].map api_Row.ID)) (step:=Aj5 vioQ (d.Atoms.map Aa4) (t.Rows.map rpV) 0) (by simp) t.Rows fun s hs _=>Awl (w:=t.Attrs.length) rfl (.inr rfl) (by simpa using ⟨hv r hr,hv s hs⟩) (by omega) (by rw [hd] at ha;exact ha)
   intro m o hg ho;obtain ⟨m',o',a,b,c,e⟩:=this m o hg ho;refine ⟨m',o',a,b,fun x=>?_,e⟩;rw [c x];unfold VioS;rw [if_neg (by omega)];have h1:∀ r,inV [] r=false:=fun _=>rfl;have h2:∀ r s,inV [r] s=false↔s.ID≠r.ID:=fun r s=>by
    simp only [inV,List.any_cons,List.any_nil,Bool.or_false,beq_eq_false_iff_ne,ne_eq];exact ⟨fun h e=>h e.symm,fun h e=>h e.symm⟩
   simp only [h1,true_and,h2];exact Iff.rfl
 obtain ⟨n,c,hn,hc,n2,n1,hgo⟩:=main;obtain ⟨m',o',g,lo,me,N1,hN1⟩:=hgo [] [] (g0 n) (by simp;omega);simp only [List.length_nil,Nat.zero_add] at lo;obtain ⟨q,c1,c2,_⟩:=Bh5 (l:=o') (by omega) fun x hx=>by rw [g.len x hx];omega
 obtain ⟨N2,hN2⟩:=c1;have hN2:∀ j,N2<=j->Ab8 env j vioQ.srt [outE o',.fn vioQ.cmp []]=some (.tup [],[outE q]):=fun j hj=>hN2 j hj;refine ⟨(q,0),?_,rfl,fun x=>?_,fun x hx=>?_,?_⟩
 ·refine At3 (p:=fun _=>none) (q:=Ai8 vioQ) (by kernel_rfl) rfl (by kernel_rfl) ⟨N+N1+N2,fun j hj=>?_⟩;simp only [Ai8,runAsk];rw [hN j (by omega)];have e1:=Afu (t.Rows.map rpV);rw [rpD] at e1;simp only [if_true,e1];rw [if_pos (by rw [List.length_map];omega)];have e2:d.Vars.toNat=n:=by omega
  rw [e2];have:=hN1 j (by omega) (endA vioQ);rw [show (D.box [Abd []])=.box [.map []] from rfl,show (D.box [outE []])=.box [.own []] from rfl] at this;rw [this];have e3:=Alo q;have hN2:=hN2 j (by omega);simp only [outE] at hN2;simp only [endA,outE,if_true,runAsk];rw [hN2];simp only [e3,runAsk];rfl
 ·rw [show ((q,(0:Int)).1)=q from rfl,c2.mem_iff,me x];simp
 ·have:=g.len x (c2.mem_iff.1 hx);omega
 ·have:=c2.length_eq;simp only;omega
abbrev Adb:api_Value:=⟨0,0,(⟨#[]⟩:ByteArray)⟩
def Apm (n v:Int) (t:api_Term):Prop:=(t.Var=0/\t.Attr=0/\Ac5 t.Value=true)∨(0<t.Var/\t.Var<=v/\0<=t.Attr/\t.Attr<n/\t.Value=Adb)
def Ahu (n v:Int) (a:api_Atom):Prop:=1<=a.Op/\a.Op<=4/\Apm n v a.Left/\Apm n v a.Right
theorem q56_.ok {n v:Int} {t:api_Term} (h:Apm n v t):q56_.C n v t true:=by
 obtain ⟨q,h1,h2⟩:=q56_.enter n v t (fun q=>q=true) (by
  rcases h with ⟨a,b,c⟩ | ⟨a,b,c,d,e⟩
  ·rw [if_pos a,if_pos b];exact ⟨_,q90_.spec,c⟩
  ·rw [if_neg (by omega),if_pos a,if_pos b,if_pos c,if_pos d,e]
   simp)
 rw [← h1];exact h2
theorem q89_.ok {n:Int} {d:api_Denial} (hd:d.Vars=1∨d.Vars=2) (hl:d.Atoms.length<=20) (ha:∀ a∈d.Atoms,Ahu n d.Vars a):q89_.C n d true:=by
 have one:∀ a∈d.Atoms,∀ l,q74_.C a n d.Vars l false:=fun a hm l=>by
  obtain ⟨x1,x2,x3,x4⟩:=ha a hm;obtain ⟨q,h1,h2⟩:=q74_.enter a n d.Vars l (fun q=>q=false) (by
   rw [if_neg (by omega),if_neg (by omega)]
   exact ⟨_,q56_.ok x3,by rw [if_pos rfl];exact ⟨_,q56_.ok x4,rfl⟩⟩)
  rw [← h1];exact h2
 obtain ⟨q,h1,h2⟩:=q20_.enter d.Atoms n d.Vars d.Atoms (fun q=>q = -1) (by
  refine down (n:=d.Atoms.length) (P:=fun k=>q20_.L1 d.Atoms n d.Vars d.Atoms k fun q=>q = -1) ?_ ?_ 0 (Nat.zero_le _)
  ·apply q20_.L1_step;rw [if_neg (by omega)]
  ·intro k hk h;apply q20_.L1_step;rw [if_pos (by omega)];refine ⟨_,Aap (List.getElem?_eq_getElem hk),_,one _ (List.getElem_mem hk) _,?_⟩;rw [if_neg Bool.false_ne_true,Aa6 (by omega)]
   exact h)
 subst h1;obtain ⟨p,g1,g2⟩:=q18_.enter d.Atoms n d.Vars d.Atoms (fun q=>q=false) ⟨_,h2,rfl⟩;subst g1;obtain ⟨p,g1,g3⟩:=q89_.enter n d (fun q=>q=true) (by
  rw [if_neg (by omega),if_neg (by omega),if_neg (by omega)]
  exact ⟨_,g2,rfl⟩)
 rw [← g1];exact g3
theorem q75_.ok {t:api_Table} {d:api_Denial} (hT:TV t) (hd:d.Vars=1∨d.Vars=2) (hl:d.Atoms.length<=20) (ha:∀ a∈d.Atoms,Ahu t.Attrs.length d.Vars a):q75_.C t d 0:=by
 obtain ⟨p,g1,g3⟩:=q75_.enter t d (fun q=>q=0) ⟨_,q91_.spec,by
  rw [if_pos (Alq.2 hT)]
  exact ⟨_,q89_.ok hd hl ha,by rw [if_pos rfl,if_neg (by omega)]⟩⟩
 rw [← g1];exact g3
theorem q95_.spec {v a:Int}:q95_.C v a ⟨v,a,Adb⟩:=by
 obtain ⟨p,g1,g3⟩:=q95_.enter v a (fun q=>q=⟨v,a,Adb⟩) rfl;rw [← g1];exact g3
def Abx (op a:Int):api_Atom:=⟨⟨1,a,Adb⟩,op,⟨2,a,Adb⟩⟩
theorem q92_.spec {op a:Int}:q92_.C op a (Abx op a):=by
 obtain ⟨p,g1,g3⟩:=q92_.enter op a (fun q=>q=Abx op a) ⟨_,q95_.spec,_,q95_.spec,rfl⟩;rw [← g1];exact g3
theorem Apk {ρ:Type} {a b:ρ}:¬ Pr ([]:List ρ) a b:=fun ⟨i,k,_,h,_⟩=>by simp at h
theorem Ang {ρ:Type} {x a b:ρ} {l:List ρ}:Pr (x::l) a b↔(x=a/\b∈l)∨Pr l a b:=by
 constructor
 ·rintro ⟨i,k,hik,ha,hb⟩;obtain ⟨k,rfl⟩:∃ q,k=q+1:=⟨k-1,by omega⟩
  rw [List.getElem?_cons_succ] at hb;cases i with
  | zero=>simp only [List.getElem?_cons_zero,zJ] at ha;exact .inl ⟨ha,List.mem_of_getElem? hb⟩
  | succ i=>rw [List.getElem?_cons_succ] at ha;exact .inr ⟨i,k,by omega,ha,hb⟩
 ·rintro (⟨rfl,hb⟩ | ⟨i,k,hik,ha,hb⟩)
  ·obtain ⟨k,hk,rfl⟩:=List.getElem_of_mem hb;exact ⟨0,k+1,by omega,rfl,by rw [List.getElem?_cons_succ,List.getElem?_eq_getElem hk]⟩
  ·exact ⟨i+1,k+1,by omega,by rwa [List.getElem?_cons_succ],by rwa [List.getElem?_cons_succ]⟩
theorem Arw {ρ:Type} {p:ρ->Bool} {a b:ρ}:∀ {l:List ρ},Pr (l.filter p) a b↔Pr l a b/\p a=true/\p b=true
 | []=>by simp only [List.filter_nil];exact ⟨fun h=>absurd h Apk,fun h=>absurd h.1 Apk⟩
 | x::l=>by
  have ih:=Arw (p:=p) (a:=a) (b:=b) (l:=l);rw [Ang];cases hx:p x with
  | true=>
   rw [List.filter_cons_of_pos hx,Ang,ih,List.mem_filter];constructor
   ·rintro (⟨rfl,h1,h2⟩ | ⟨h1,h2⟩)
    ·exact ⟨.inl ⟨rfl,h1⟩,hx,h2⟩
    ·exact ⟨.inr h1,h2⟩
   ·rintro ⟨⟨rfl,h1⟩ | h1,h2⟩
    ·exact .inl ⟨rfl,h1,h2.2⟩
    ·exact .inr ⟨h1,h2⟩
  | false=>
   rw [List.filter_cons_of_neg (by simp [hx]),ih];constructor
   ·exact fun ⟨h1,h2⟩=>⟨.inr h1,h2⟩
   ·rintro ⟨⟨rfl,h1⟩ | h1,h2⟩
    ·rw [hx] at h2;cases h2.1
    ·exact ⟨h1,h2⟩
theorem Atx {ρ:Type} {a b:ρ} {l:List ρ} (h:Pr l a b):a∈l/\b∈l:=by
 obtain ⟨i,k,_,ha,hb⟩:=h;exact ⟨List.mem_of_getElem? ha,List.mem_of_getElem? hb⟩
theorem Anh {t:api_Table} (hT:TV t) {a b:api_Row} (h:Pr t.Rows a b):a.ID<b.ID:=by
 obtain ⟨i,k,hik,ha,hb⟩:=h;obtain ⟨hi,rfl⟩:=List.getElem?_eq_some_iff.1 ha;obtain ⟨hk,rfl⟩:=List.getElem?_eq_some_iff.1 hb;exact (List.pairwise_iff_getElem.1 (Ale hT.rows)) i k hi hk hik
theorem Bbh {t:api_Table} {a b:api_Row} (ha:a∈t.Rows) (hb:b∈t.Rows) (hne:b.ID≠a.ID):Pr t.Rows a b∨Pr t.Rows b a:=by
 obtain ⟨i,hi,rfl⟩:=List.getElem_of_mem ha;obtain ⟨k,hk,rfl⟩:=List.getElem_of_mem hb;rcases Nat.lt_trichotomy i k with h | h | h
 ·exact .inl ⟨i,k,h,List.getElem?_eq_getElem hi,List.getElem?_eq_getElem hk⟩
 ·subst h;exact absurd rfl hne
 ·exact .inr ⟨k,i,h,List.getElem?_eq_getElem hk,List.getElem?_eq_getElem hi⟩
theorem andV {v w:api_Value}:(and (v.Kind == w.Kind) (and (v.Num == w.Num) (and (v.Str.toList == w.Str.toList) true)))=decide (v=w):=by
 obtain ⟨k,n,s⟩:=v;obtain ⟨k',n',s'⟩:=w;rw [Bool.eq_iff_iff];simp only [Bool.and_true,Bool.and_eq_true,beq_iff_eq,decide_eq_true_eq,api_Value.mk.injEq,Au4]
def fitC (p:api_Cell) (v:api_Value):Bool:=p.Any || decide (p.Value=v)
theorem q57_.spec {p:api_Cell} {v:api_Value}:q57_.C p v (fitC p v):=by
 obtain ⟨q,h1,h2⟩:=q57_.enter p v (fun q=>q=fitC p v) (by
  unfold fitC;rw [andV]
  split
  ·rename_i h;rw [h,Bool.true_or]
  ·rename_i h;rw [Bool.eq_false_iff.2 h,Bool.false_or])
 rw [← h1];exact h2
structure CndOK (n:Nat) (c:api_CFD) (L:List Nat):Prop where
 n16:n<=16
 lhs:c.Lhs=nI L
 asc:L.Pairwise (·<·)
 lt:∀ i∈L,i<n
 len:L.length<=16
 rhs:0<=c.Rhs/\c.Rhs<n
 out:c.Rhs.toNat ∉ L
 pat:c.Pattern.length=L.length+1
 val:∀ p∈c.Pattern,(p.Any=true/\p.Value=Adb)∨(p.Any=false/\Ac5 p.Value=true)
def patC (c:api_CFD) (k:Nat):api_Cell:=(c.Pattern[k]?).getD ⟨true,Adb⟩
theorem Aip {c:api_CFD} {k:Nat} (h:k<c.Pattern.length):c.Pattern[k]? = some (patC c k):=by
 unfold patC;rw [List.getElem?_eq_getElem h];rfl
def Ac6 (c:api_CFD) (L:List Nat) (r:api_Row):Bool:=(List.range L.length).all fun k=>fitC (patC c k) (vAt r (L.getD k 0))
def Afn (c:api_CFD) (L:List Nat) (r:api_Row):Bool:=fitC (patC c L.length) (vAt r c.Rhs.toNat)
def Aha (c:api_CFD) (L:List Nat) (a b:api_Row):Bool:=!decide (vAt a c.Rhs.toNat=vAt b c.Rhs.toNat)&&!L.any fun k=>!decide (vAt a k=vAt b k)
section
variable {n:Nat} {c:api_CFD} {L:List Nat} (hc:CndOK n c L)
include hc
theorem q51_.ok:q51_.C n c true:=by
 have one:∀ p∈c.Pattern,q43_.C p false:=fun p hp=>by
  obtain ⟨q,h1,h2⟩:=q43_.enter p (fun q=>q=false) (by
   rcases hc.val p hp with ⟨a,b⟩ | ⟨a,b⟩
   ·rw [if_pos a,b];simp [a]
   ·rw [if_neg (by simp [a]),if_neg (by simp [a])]
    exact ⟨_,q90_.spec,by rw [b];rfl⟩)
  rw [← h1];exact h2
 obtain ⟨q,h1,h2⟩:=q17_.enter c.Pattern (fun q=>q = -1) (by
  have hp:=hc.pat;have hl:=hc.len;refine down (n:=c.Pattern.length) (P:=fun k=>q17_.L1 c.Pattern k fun q=>q = -1) ?_ ?_ 0 (Nat.zero_le _)
  ·apply q17_.L1_step;rw [if_neg (by omega)]
  ·intro k hk h;apply q17_.L1_step;rw [if_pos (by omega)];refine ⟨_,Aap (List.getElem?_eq_getElem hk),_,one _ (List.getElem_mem hk),?_⟩;rw [if_neg Bool.false_ne_true,Aa6 (by omega)]
   exact h)
 subst h1;obtain ⟨p,g1,g2⟩:=q10_.enter c.Pattern (fun q=>q=false) ⟨_,h2,rfl⟩;subst g1;obtain ⟨p,g1,g3⟩:=q51_.enter n c (fun q=>q=true) (by
  have h16:=hc.n16;have hr:=hc.rhs;have hp:=hc.pat;have hl:=hc.len;have el:c.Lhs.length=L.length:=by rw [hc.lhs];simp [nI]
  rw [if_neg (by omega),if_neg (by omega),if_neg (by omega),if_neg (by omega),el,Aa6 (by omega),if_pos (by omega)];have go:∀ (xs:List Nat) (k:Nat) (b:Int),L.drop k=xs->(∀ i∈xs,b<i)->q51_.L1 n c b k fun q=>q=true:=by
   intro xs
   induction xs with
   | nil=>
    intro k b hd _;have hge:=Abg hd;apply q51_.L1_step;rw [el,if_neg (by omega)];exact ⟨_,g2,rfl⟩
   | cons i xs ih=>
    intro k b hd hb;have hlt:=Abh hd;have hi:=hc.lt i (List.mem_of_getElem? (Aas hd));have hbi:=hb i (by simp);apply q51_.L1_step;rw [el,if_pos (by omega)];refine ⟨(i:Int),by rw [hc.lhs];exact Aap (Af2 (Aas hd)),?_⟩;rw [if_neg (by omega),if_neg (by omega),if_neg (fun e=>hc.out (by rw [← e,Int.toNat_natCast];exact List.mem_of_getElem? (Aas hd))),Aa6 (by omega)];refine ih (k+1) _ (Aah hd) fun j hj=>?_;have ha:=hc.asc;rw [← List.take_append_drop k L,List.pairwise_append,hd] at ha;have:=(List.pairwise_cons.1 ha.2.1).1 j hj;omega
  exact go L 0 (-1) rfl fun i _=>by omega)
 rw [← g1];exact g3
theorem q58_.spec {r:api_Row} (hr:r.Values.length=n):q58_.C c r.Values (Ac6 c L r):=by
 have hp:=hc.pat;have hl:=hc.len;have el:c.Lhs.length=L.length:=by rw [hc.lhs];simp [nI]
 obtain ⟨q,h1,h2⟩:=q58_.enter c r.Values (fun q=>q=Ac6 c L r) (by
  refine Aos (l:=List.range L.length) (p:=fun k=>fitC (patC c k) (vAt r (L.getD k 0))) (L:=fun i=>q58_.L1 c r.Values i fun q=>q=Ac6 c L r) (φ:=fun b=>b=Ac6 c L r) ?_ ?_ rfl
  ·intro h;apply q58_.L1_step;rw [el,List.length_range,if_neg (by omega)];exact h
  ·intro k a hk hlt h;rw [List.length_range] at hlt;rw [List.getElem?_range hlt] at hk;cases hk;have hg:L[k]? = some (L.getD k 0):=by rw [List.getD_eq_getElem?_getD,List.getElem?_eq_getElem hlt];rfl
   have hi:=hc.lt _ (List.mem_of_getElem? hg);apply q58_.L1_step;rw [el,if_pos (by omega)];refine ⟨((L.getD k 0:Nat):Int),by rw [hc.lhs];exact Aap (Af2 hg),patC c k,Aap (Aip (by omega)),vAt r (L.getD k 0),Aap (Ah0 (by omega)),_,q57_.spec,?_⟩;rw [Aa6 (by omega)]
   exact h)
 rw [← h1];exact h2
theorem q52_.spec:q52_.C c (patC c L.length):=by
 have hp:=hc.pat;have el:c.Lhs.length=L.length:=by rw [hc.lhs];simp [nI]
 obtain ⟨q,h1,h2⟩:=q52_.enter c (fun q=>q=patC c L.length) ⟨_,by rw [el];exact Aap (Aip (by omega)),rfl⟩;rw [← h1];exact h2
theorem Ax6 {r:api_Row} (hr:r.Values.length=n):lget r.Values c.Rhs=some (vAt r c.Rhs.toNat):=by
 have h:=hc.rhs;have e:c.Rhs=((c.Rhs.toNat:Nat):Int):=by omega
 rw [e,Af1,Int.toNat_natCast];exact Ah0 (by omega)
theorem q59_.spec {a b:api_Row} (ha:a.Values.length=n) (hb:b.Values.length=n):q59_.C c a.Values b.Values (Aha c L a b):=by
 have hl:=hc.len;have el:c.Lhs.length=L.length:=by rw [hc.lhs];simp [nI]
 have one:∀ i:Nat,i<n->q46_.C i a.Values b.Values (!decide (vAt a i=vAt b i)):=fun i hi=>by
  obtain ⟨q,h1,h2⟩:=q46_.enter i a.Values b.Values (fun q=>q=!decide (vAt a i=vAt b i)) ⟨_,Aap (Ah0 (by omega)),_,Aap (Ah0 (by omega)),by rw [andV]⟩;rw [← h1];exact h2
 obtain ⟨q,h1,h2⟩:=q24_.enter c.Lhs a.Values b.Values (fun q=>decide (0<=q)=L.any fun k=>!decide (vAt a k=vAt b k)) (by
  have go:∀ (xs:List Nat) (k:Nat),L.drop k=xs->(L.any fun k=>!decide (vAt a k=vAt b k))=(xs.any fun k=>!decide (vAt a k=vAt b k))->q24_.L1 c.Lhs a.Values b.Values k fun q=>decide (0<=q)=L.any fun k=>!decide (vAt a k=vAt b k):=by
   intro xs
   induction xs with
   | nil=>
    intro k hd h;have hge:=Abg hd;apply q24_.L1_step;rw [el,if_neg (by omega),h];rfl
   | cons i xs ih=>
    intro k hd h;have hlt:=Abh hd;apply q24_.L1_step;rw [el,if_pos (by omega)];refine ⟨(i:Int),by rw [hc.lhs];exact Aap (Af2 (Aas hd)),_,one i (hc.lt i (List.mem_of_getElem? (Aas hd))),?_⟩;rw [List.any_cons] at h
    split
    ·rename_i e;rw [h,e];simp
    ·rename_i e;rw [Bool.eq_false_iff.2 e,Bool.false_or] at h;rw [Aa6 (by omega)];exact ih (k+1) (Aah hd) h
  exact go L 0 rfl rfl)
 obtain ⟨p,g1,g2⟩:=q22_.enter c.Lhs a.Values b.Values (fun q=>q=L.any fun k=>!decide (vAt a k=vAt b k)) ⟨q,h2,h1⟩;subst g1;obtain ⟨p,g1,g3⟩:=q59_.enter c a.Values b.Values (fun q=>q=Aha c L a b) ⟨_,Ax6 hc ha,_,Ax6 hc hb,by
  rw [andV];unfold Aha
  split
  ·rename_i h;rw [h];rfl
  ·rename_i h
   exact ⟨_,g2,by rw [Bool.eq_false_iff.2 h];rfl⟩⟩
 rw [← g1];exact g3
def VioC (t:api_Table) (c:api_CFD) (L:List Nat) (x:List Int):Prop:=
 (∃ r∈t.Rows,Ac6 c L r=true/\Afn c L r=false/\x=[r.ID])∨(∃ r s,Pr t.Rows r s/\Ac6 c L r=true/\Ac6 c L s=true/\Aha c L r s=true/\x=[r.ID,s.ID])
end
section
variable {t:api_Table} {c:api_CFD} {L:List Nat} (hT:TV t) (hc:CndOK t.Attrs.length c L)
include hT hc
theorem q36_.spec (h10:t.Rows.length<=10):∃ r,q36_.C t c r/\r.2=0/\(∀ x,x∈r.1↔VioC t c L x)/\r.1.length<=110:=by
 let P:List (List Int)×Int->Prop:=fun r=>r.2=0/\(∀ x,x∈r.1↔VioC t c L x)/\r.1.length<=110
 have hv:∀ r∈t.Rows,r.Values.length=t.Attrs.length:=fun r hr=>hT.len hr;have hMl:(t.Rows.filter (Ac6 c L)).length<=10:=Nat.le_trans (List.length_filter_le _ _) h10;have hMv:∀ r∈t.Rows.filter (Ac6 c L),r.Values.length=t.Attrs.length:=fun r hr=>hv r (List.mem_filter.1 hr).1;have l3:∀ M:List api_Row,M.length<=10->(∀ r∈M,r.Values.length=t.Attrs.length)->∀ (φ:List (List Int)×Int->Prop) (R:List api_Row) (k:Nat) (A B:List (List Int)),M.drop k=R->A.length+R.length<=10->B.length+R.length*10<=100 ->
   (∀ A' B':List (List Int),(∀ x,x∈A'↔x∈A∨∃ r∈R,Afn c L r=false/\x=[r.ID])->(∀ x,x∈B'↔x∈B∨∃ a b,Pr R a b/\Aha c L a b=true/\x=[a.ID,b.ID])->A'.length<=10->B'.length<=100->φ (A'++B',0))->q36_.L3 c M A B k φ:=by
  intro M hM hMv φ R
  induction R with
  | nil=>
   intro k A B hd hA hB h;have hge:=Abg hd;simp only [List.length_nil] at hA hB;apply q36_.L3_step;rw [if_neg (by omega)];refine ⟨by omega,h A B (fun x=>by simp) (fun x=>?_) (by omega) (by omega)⟩;constructor
   ·exact .inl
   ·rintro (h | ⟨a,b,hp,_⟩)
    ·exact h
    ·exact absurd hp Apk
  | cons a R ih=>
   intro k A B hd hA hB h;have hlt:=Abh hd;have ham:=List.mem_of_getElem? (Aas hd);simp only [List.length_cons] at hA hB;have hRl:R.length=M.length-(k+1):=by have:=congrArg List.length (Aah hd);rw [List.length_drop] at this;omega
   have l5:∀ A1:List (List Int),A1.length<=A.length+1->(∀ x,x∈A1↔x∈A∨(Afn c L a=false/\x=[a.ID]))->q36_.L5 c M A1 B k a k φ:=by
    intro A1 hA1 hm;have l4:∀ (Q:List api_Row) (j:Nat) (B1:List (List Int)),M.drop (k+1+j)=Q->k+1+j<=M.length->B1.length+Q.length<=B.length+R.length->(∀ x,(x∈B1∨∃ b∈Q,Aha c L a b=true/\x=[a.ID,b.ID])↔x∈B∨∃ b∈R,Aha c L a b=true/\x=[a.ID,b.ID])->q36_.L4 c M A1 B1 a k (k+1) (M.length-(k+1)) ((M.length-(k+1):Nat):Int) j φ:=by
     intro Q
     induction Q with
     | nil=>
      intro j B1 hj hjl hB1 hx;have hge:=Abg hj;simp only [List.length_nil] at hB1;apply q36_.L4_step;rw [if_neg (by omega),Aa6 (by omega)];refine ih (k+1) A1 B1 (Aah hd) (by omega) (by omega) fun A' B' h1 h2 h3 h4=>h A' B' (fun x=>?_) (fun x=>?_) h3 h4
      ·rw [h1 x,hm x];simp only [List.mem_cons,exists_eq_or_imp,or_assoc]
      ·rw [h2 x];have:=hx x;simp only [List.not_mem_nil,false_and,exists_false,or_false] at this;rw [this];simp only [Ang];constructor
       ·rintro ((h | ⟨b,hb,h⟩) | ⟨p,q,h1,h⟩)
        ·exact .inl h
        ·exact .inr ⟨a,b,.inl ⟨rfl,hb⟩,h⟩
        ·exact .inr ⟨p,q,.inr h1,h⟩
       ·rintro (h | ⟨p,q,⟨rfl,hb⟩ | h1,h⟩)
        ·exact .inl (.inl h)
        ·exact .inl (.inr ⟨q,hb,h⟩)
        ·exact .inr ⟨p,q,h1,h⟩
     | cons b Q ih2=>
      intro j B1 hj hjl hB1 hx;have hlt2:=Abh hj;have hbm:=List.mem_of_getElem? (Aas hj);simp only [List.length_cons] at hB1;have nx:M.drop (k+1+(j+1))=Q:=Aah hj;apply q36_.L4_step;rw [if_pos (by omega)];refine ⟨b,by rw [show ((k+1:Nat):Int)+(j:Int)=((k+1+j:Nat):Int) by omega];exact Ac0 hj,⟨by omega,by omega⟩,by omega,_,q59_.spec hc (hMv a ham) (hMv b hbm),?_⟩
      split
      ·rename_i hp;refine ⟨by omega,?_⟩;apply q36_.L6_step;rw [Aa6 (by omega)];refine ih2 (j+1) _ nx (by omega) (by simp only [List.length_append,List.length_singleton];omega) fun x=>?_;rw [← hx x];simp only [List.mem_append,List.mem_cons,List.not_mem_nil,false_or,exists_eq_or_imp,hp,true_and,or_assoc]
      ·rename_i hp;apply q36_.L6_step;rw [Aa6 (by omega)];refine ih2 (j+1) _ nx (by omega) (by omega) fun x=>?_;rw [← hx x];simp only [List.mem_cons,exists_eq_or_imp,Bool.eq_false_iff.2 hp,Bool.false_eq_true,false_and,false_or]
    apply q36_.L5_step;rw [Aa6 (by omega),Int.toNat_natCast];refine ⟨by omega,⟨by omega,by omega⟩,by omega,?_⟩;rw [List.length_take,List.length_drop,Nat.min_self];exact l4 R 0 B (Aah hd) (by omega) (by omega) fun x=>Iff.rfl
   apply q36_.L3_step;rw [if_pos (by omega)];refine ⟨a,Ac0 hd,_,q52_.spec hc,_,Ax6 hc (hMv a ham),_,q57_.spec,?_⟩
   split
   ·rename_i hf;have hf:Afn c L a=true:=hf;exact l5 A (by omega) fun x=>by simp [hf]
   ·rename_i hf;have hf:Afn c L a=false:=Bool.eq_false_iff.2 hf;exact ⟨by omega,l5 _ (by simp) fun x=>by simp [hf]⟩
 have fin:q36_.L3 c (t.Rows.filter (Ac6 c L)) [] [] 0 P:=by
  refine l3 _ hMl hMv P _ 0 [] [] rfl (by simpa using hMl) (by simp only [List.drop_zero,List.length_nil];omega) fun A' B' h1 h2 h3 h4=>⟨rfl,fun x=>?_,by simp only [List.length_append];omega⟩
  rw [List.mem_append,h1 x,h2 x];unfold VioC;simp only [List.not_mem_nil,false_or,List.drop_zero,List.mem_filter,Arw,and_assoc]
 have l1:∀ (R:List api_Row) (k:Nat) (M:List api_Row),t.Rows.drop k=R->M.length<=k->M++R.filter (Ac6 c L)=t.Rows.filter (Ac6 c L)->q36_.L1 t c M k P:=by
  intro R
  induction R with
  | nil=>
   intro k M hd hk h;have hge:=Abg hd;apply q36_.L1_step;rw [if_neg (by omega)];simp only [List.filter_nil,List.append_nil] at h;rw [h];exact fin
  | cons r R ih=>
   intro k M hd hk h;have hlt:=Abh hd;have hrm:=List.mem_of_getElem? (Aas hd);apply q36_.L1_step;rw [if_pos (by omega)];refine ⟨r,Ac0 hd,_,q58_.spec hc (hv r hrm),?_⟩
   split
   ·rename_i hl;refine ⟨by omega,?_⟩;apply q36_.L2_step;rw [Aa6 (by omega)];rw [List.filter_cons_of_pos hl] at h;exact ih (k+1) _ (Aah hd) (by simp;omega) (by simpa using h)
   ·rename_i hl;apply q36_.L2_step;rw [Aa6 (by omega)];rw [List.filter_cons_of_neg hl] at h;exact ih (k+1) _ (Aah hd) (by omega) h
 obtain ⟨r,h1,h2⟩:=q36_.enter t c P ⟨_,q91_.spec,by
  rw [if_pos (Alq.2 hT)]
  exact ⟨_,q51_.ok hc,by rw [if_pos rfl];exact l1 t.Rows 0 [] rfl (by simp) rfl⟩⟩
 exact ⟨r,h2,h1⟩
end
structure DenOK (n:Nat) (d:api_Denial):Prop where
 vars:d.Vars=1∨d.Vars=2
 len:d.Atoms.length<=20
 val:∀ a∈d.Atoms,Ahu n d.Vars a
 ok:∀ a∈d.Atoms,Afj n d.Vars.toNat a
theorem q39_.spec {t:api_Table} {ds:List api_Denial} (hT:TV t) (h10:t.Rows.length<=10) (hd:∀ d∈ds,DenOK t.Attrs.length d) (hl:ds.length<=900) :
  ∃ r,q39_.C t ds r/\r.2=true/\StrL r.1/\∀ x,x∈r.1↔∃ d∈ds,VioS t d x:=by
 let P:List (List Int)×Bool->Prop:=fun r=>r.2=true/\StrL r.1/\∀ x,x∈r.1↔∃ d∈ds,VioS t d x
 have go:∀ (R:List api_Denial) (k:Nat) (acc:List (List Int)),ds.drop k=R->StrL acc->acc.length<=k*100->(∀ x∈acc,x.length<=2)->(∀ x,x∈acc↔∃ d∈ds.take k,VioS t d x)->q39_.L1 t ds acc k P:=by
  intro R
  induction R with
  | nil=>
   intro k acc hk hs hal h2 hm;have hge:=Abg hk;apply q39_.L1_step;rw [if_neg (by omega)];rw [List.take_of_length_le hge] at hm;exact ⟨rfl,hs,hm⟩
  | cons d R ih=>
   intro k acc hk hs hal h2 hm;have hlt:=Abh hk;have dk:=hd d (List.mem_of_getElem? (Aas hk));obtain ⟨v,v1,v2,v3,v4,v5⟩:=q50_.spec hT h10 dk.vars dk.len dk.ok (q75_.ok hT dk.vars dk.len dk.val);apply q39_.L1_step;rw [if_pos (by omega)];refine ⟨d,Ac0 hk,v,v1,?_⟩;rw [if_pos v2];have inner:∀ (Q:List (List Int)) (j:Nat) (a:List (List Int)),v.1.drop j=Q->j<=v.1.length->StrL a->a.length<=k*100+j->(∀ x∈a,x.length<=2)->(∀ x,x∈a↔(∃ d∈ds.take k,VioS t d x)∨x∈v.1.take j)->q39_.L2 t ds a v k j P:=by
    intro Q
    induction Q with
    | nil=>
     intro j a hj hjl hs2 ha2 h22 hm2;have hge:=Abg hj;apply q39_.L2_step;rw [if_neg (by omega),Aa6 (by omega)];refine ih (k+1) a (Aah hk) hs2 (by omega) h22 fun x=>?_;rw [hm2 x,List.take_of_length_le hge,v3 x,List.take_add_one,Aas hk];simp only [Option.toList_some,List.mem_append,List.mem_singleton];constructor
     ·rintro (⟨e,h1,h2⟩ | h)
      ·exact ⟨e,.inl h1,h2⟩
      ·exact ⟨d,.inr rfl,h⟩
     ·rintro ⟨e,h1 | rfl,h2⟩
      ·exact .inl ⟨e,h1,h2⟩
      ·exact .inr h2
    | cons y Q ih2=>
     intro j a hj hjl hs2 ha2 h22 hm2;have hlt2:=Abh hj;have hy:=v4 y (List.mem_of_getElem? (Aas hj));obtain ⟨p,p1,p2,p3,p4⟩:=q70_.spec (l:=a) (x:=y) (by omega) (by omega) (fun z hz=>by have:=h22 z hz;omega) hs2;apply q39_.L2_step;rw [if_pos (by omega)];refine ⟨y,Ac0 hj,p,p1,?_⟩;rw [Aa6 (by omega)];refine ih2 (j+1) p (Aah hj) (by omega) p2 (by omega) (fun z hz=>?_) fun x=>?_
     ·rcases (p4 z).1 hz with h | rfl
      ·exact h22 z h
      ·exact hy
     ·rw [p4 x,hm2 x,List.take_add_one,Aas hj];simp only [Option.toList_some,List.mem_append,List.mem_singleton,or_assoc]
   exact inner v.1 0 acc rfl (by omega) hs (by omega) h2 fun x=>by rw [hm x];simp
 obtain ⟨r,h1,h2⟩:=q39_.enter t ds P (go ds 0 [] rfl List.Pairwise.nil (by simp) (by simp) fun x=>by simp);exact ⟨r,h2,h1⟩
theorem q96_.spec {op a:Int} {v:api_Value}:q96_.C op a v ⟨⟨1,a,Adb⟩,op,⟨0,0,v⟩⟩:=by
 obtain ⟨p,g1,g3⟩:=q96_.enter op a v (fun q=>q=⟨⟨1,a,Adb⟩,op,⟨0,0,v⟩⟩) ⟨_,q95_.spec,rfl⟩;rw [← g1];exact g3
theorem q76_.ok {n:Nat} (hn:n<=16):q76_.C n true:=by
 obtain ⟨p,g1,g3⟩:=q76_.enter n (fun q=>q=true) (by
  rw [if_pos (by omega)]
  exact decide_eq_true (by omega))
 rw [← g1];exact g3
def isK (op a:Int) (v:api_Value):api_Atom:=⟨⟨1,a,Adb⟩,op,⟨0,0,v⟩⟩
def cstC (c:api_CFD) (L:List Nat) (k:Nat):List api_Atom:=if (patC c k).Any=true then [] else [isK 1 ((L.getD k 0:Nat):Int) (patC c k).Value]
def Af9 (c:api_CFD) (L:List Nat) (m:Nat):List api_Atom:=(List.range m).flatMap (cstC c L)
def Aeg (c:api_CFD) (L:List Nat) (m:Nat):List api_Atom:=(List.range m).flatMap fun k=>Abx 1 ((L.getD k 0:Nat):Int)::cstC c L k
theorem Apu {c:api_CFD} {L:List Nat} {m:Nat}:Af9 c L (m+1)=Af9 c L m++cstC c L m:=by
 unfold Af9;rw [List.range_succ,List.flatMap_append];simp
theorem Ar1 {c:api_CFD} {L:List Nat} {m:Nat}:Aeg c L (m+1)=Aeg c L m++(Abx 1 ((L.getD m 0:Nat):Int)::cstC c L m):=by
 unfold Aeg;rw [List.range_succ,List.flatMap_append];simp
theorem Aub {c:api_CFD} {L:List Nat} {k:Nat}:(cstC c L k).length<=1:=by
 unfold cstC;split<;>simp
theorem Aje {c:api_CFD} {L:List Nat}:∀ {m:Nat},(Af9 c L m).length<=m
 | 0=>by simp [Af9]
 | m+1=>by
  have:=Aje (c:=c) (L:=L) (m:=m);have:=Aub (c:=c) (L:=L) (k:=m);rw [Apu,List.length_append];omega
theorem Ajq {c:api_CFD} {L:List Nat}:∀ {m:Nat},(Aeg c L m).length<=2*m
 | 0=>by simp [Aeg]
 | m+1=>by
  have:=Ajq (c:=c) (L:=L) (m:=m);have:=Aub (c:=c) (L:=L) (k:=m);rw [Ar1,List.length_append,List.length_cons];omega
def dlC (c:api_CFD) (L:List Nat):List api_Denial:=
 if (patC c L.length).Any=true then [⟨2,Aeg c L L.length++[Abx 2 c.Rhs]⟩]
 else [⟨1,Af9 c L L.length++[isK 2 c.Rhs (patC c L.length).Value]⟩,⟨2,Aeg c L L.length++[Abx 2 c.Rhs]⟩]
section
variable {n:Nat} {c:api_CFD} {L:List Nat} (hc:CndOK n c L)
include hc
theorem q77_.spec (h9:L.length<=9):q77_.C n c (dlC c L,0):=by
 have hp:=hc.pat;have el:c.Lhs.length=L.length:=by rw [hc.lhs];simp [nI]
 obtain ⟨p,g1,g3⟩:=q77_.enter n c (fun q=>q=(dlC c L,0)) ⟨_,q76_.ok hc.n16,by
  rw [if_pos rfl];refine ⟨_,q51_.ok hc,?_⟩;rw [if_pos rfl];have go:∀ k,k<=L.length->q77_.L1 c (Af9 c L k) (Aeg c L k) k fun q=>q=(dlC c L,0):=by
   refine down ?_ ?_
   ·have l1:=Aje (c:=c) (L:=L) (m:=L.length);have l2:=Ajq (c:=c) (L:=L) (m:=L.length);apply q77_.L1_step;rw [el,if_neg (by omega)];refine ⟨_,Aap (Aip (by omega)),_,q92_.spec,by omega,?_⟩;rw [if_neg (by simp only [List.length_append,List.length_singleton];omega)];unfold dlC
    split
    ·rfl
    ·exact ⟨_,q96_.spec,by omega,rfl⟩
   ·intro k hk h;have l1:=Aje (c:=c) (L:=L) (m:=k);have l2:=Ajq (c:=c) (L:=L) (m:=k);have hg:L[k]? = some (L.getD k 0):=by rw [List.getD_eq_getElem?_getD,List.getElem?_eq_getElem hk];rfl
    rw [Apu,Ar1] at h;apply q77_.L1_step;rw [el,if_pos (by omega)];refine ⟨((L.getD k 0:Nat):Int),by rw [hc.lhs];exact Aap (Af2 hg),_,q92_.spec,by omega,patC c k,Aap (Aip (by omega)),?_⟩;unfold cstC at h
    split
    ·rename_i ha;rw [if_pos ha,List.append_nil] at h;apply q77_.L2_step;rw [Aa6 (by omega)];exact h
    ·rename_i ha;rw [if_neg ha] at h;refine ⟨_,q96_.spec,by omega,_,q96_.spec,by simp only [List.length_append,List.length_singleton];omega,?_⟩;apply q77_.L2_step;rw [Aa6 (by omega),List.append_assoc];exact h
  exact go 0 (Nat.zero_le _)⟩
 rw [← g1];exact g3
theorem Az3 {v:Int} {k:Nat} (hk:k<c.Pattern.length) (ha:¬ (patC c k).Any=true):Apm n v ⟨0,0,(patC c k).Value⟩/\Am8 n v.toNat ⟨0,0,(patC c k).Value⟩:=by
 have hm:=List.mem_of_getElem? (Aip hk);rcases hc.val _ hm with h | h
 ·exact absurd h.1 ha
 ·exact ⟨.inl ⟨rfl,rfl,h.2⟩,.inl rfl⟩
omit hc in
theorem varV {v:Int} {w:Int} {i:Int} (h0:1<=w) (hw:w<=v) (hi:0<=i) (hn:i<n):Apm n v ⟨w,i,Adb⟩/\Am8 n v.toNat ⟨w,i,Adb⟩:=
 ⟨.inr ⟨by show 0<w;omega,hw,hi,hn,rfl⟩,.inr ⟨h0,by show w<=((v.toNat:Nat):Int);omega,hi,hn⟩⟩
theorem Awh {v:Int} (hv:1<=v) {k:Nat} (hk:k<L.length):∀ b∈cstC c L k,Ahu n v b/\Afj n v.toNat b:=fun b hb=>by
 unfold cstC at hb
 split at hb
 ·cases hb
 ·rename_i ha;rw [List.mem_singleton] at hb;subst hb;have hp:=hc.pat;have hg:L[k]? = some (L.getD k 0):=by rw [List.getD_eq_getElem?_getD,List.getElem?_eq_getElem hk];rfl
  have hi:=hc.lt _ (List.mem_of_getElem? hg);have a1:=Az3 hc (v:=v) (k:=k) (by omega) ha;have a2:=varV (n:=n) (v:=v) (w:=1) (i:=((L.getD k 0:Nat):Int)) (by decide) hv (by omega) (by omega);exact ⟨⟨by show (1:Int)<=1;decide,by show (1:Int)<=4;decide,a2.1,a1.1⟩,a2.2,a1.2⟩
theorem Awe {v op i:Int} (hv:2<=v) (h1:1<=op) (h4:op<=4) (hi:0<=i) (hn:i<n):Ahu n v (Abx op i)/\Afj n v.toNat (Abx op i):=by
 have a1:=varV (n:=n) (v:=v) (w:=1) (i:=i) (by decide) (by omega) hi hn;have a2:=varV (n:=n) (v:=v) (w:=2) (i:=i) (by decide) hv hi hn;exact ⟨⟨h1,h4,a1.1,a2.1⟩,a1.2,a2.2⟩
theorem Be1 (h9:L.length<=9):∀ d∈dlC c L,DenOK n d:=by
 have hp:=hc.pat;have hr:=hc.rhs;have l1:=Aje (c:=c) (L:=L) (m:=L.length);have l2:=Ajq (c:=c) (L:=L) (m:=L.length);have two:DenOK n ⟨2,Aeg c L L.length++[Abx 2 c.Rhs]⟩:=by
  have all:∀ b∈Aeg c L L.length++[Abx 2 c.Rhs],Ahu n 2 b/\Afj n 2 b:=fun b hb=>by
   simp only [Aeg,List.mem_append,List.mem_flatMap,List.mem_range,List.mem_cons,List.not_mem_nil,or_false] at hb;rcases hb with ⟨k,hk,rfl | hb⟩ | rfl
   ·have hg:L[k]? = some (L.getD k 0):=by rw [List.getD_eq_getElem?_getD,List.getElem?_eq_getElem hk];rfl
    have hi:=hc.lt _ (List.mem_of_getElem? hg);exact Awe hc (v:=2) (by decide) (by decide) (by decide) (by omega) (by omega)
   ·exact Awh hc (v:=2) (by decide) hk b hb
   ·exact Awe hc (v:=2) (by decide) (by decide) (by decide) hr.1 hr.2
  exact ⟨.inr rfl,by simp only [List.length_append,List.length_singleton];omega,fun b hb=>(all b hb).1,fun b hb=>(all b hb).2⟩
 intro d hd;unfold dlC at hd
 split at hd
 ·rw [List.mem_singleton.1 hd];exact two
 ·rename_i ha;simp only [List.mem_cons,List.not_mem_nil,or_false] at hd;rcases hd with rfl | rfl
  ·have all:∀ b∈Af9 c L L.length++[isK 2 c.Rhs (patC c L.length).Value],Ahu n 1 b/\Afj n 1 b:=fun b hb=>by
    simp only [Af9,List.mem_append,List.mem_flatMap,List.mem_range,List.mem_cons,List.not_mem_nil,or_false] at hb;rcases hb with ⟨k,hk,hb⟩ | rfl
    ·exact Awh hc (v:=1) (by decide) hk b hb
    ·have a1:=Az3 hc (v:=1) (k:=L.length) (by omega) ha;have a2:=varV (n:=n) (v:=1) (w:=1) (i:=c.Rhs) (by decide) (by decide) hr.1 hr.2;exact ⟨⟨by show (1:Int)<=2;decide,by show (2:Int)<=4;decide,a2.1,a1.1⟩,a2.2,a1.2⟩
   exact ⟨.inl rfl,by simp only [List.length_append,List.length_singleton];omega,fun b hb=>(all b hb).1,fun b hb=>(all b hb).2⟩
  ·exact two
end
theorem opK1 {c:Int}:opK 1 c=(c == 0):=rfl
theorem opK2 {c:Int}:opK 2 c=(c != 0):=rfl
theorem opK3 {c:Int}:opK 3 c=decide (c<0):=rfl
theorem val1 {r:api_Row} {rs:List api_Row} {i:Int}:valT (r::rs) ⟨1,i,Adb⟩=vAt r i.toNat:=rfl
theorem val2 {r s:api_Row} {i:Int}:valT [r,s] ⟨2,i,Adb⟩=vAt s i.toNat:=rfl
theorem val0 {rs:List api_Row} {v:api_Value}:valT rs ⟨0,0,v⟩=v:=rfl
theorem Aiw {rs:List api_Row} {l m:List api_Atom}:satK rs (l++m)=(satK rs l&&satK rs m):=by unfold satK;rw [List.all_append]
theorem Av7 {r:api_Row} {rs:List api_Row} {c:api_CFD} {L:List Nat} {k:Nat}:satK (r::rs) (cstC c L k)=fitC (patC c k) (vAt r (L.getD k 0)):=by
 unfold cstC fitC
 split
 ·rename_i h;rw [h];rfl
 ·rename_i h;rw [Bool.eq_false_iff.2 h,Bool.false_or];simp only [satK,List.all_cons,List.all_nil,Bool.and_true,isK,opK1,val1,val0,Int.toNat_natCast];rw [Bool.eq_iff_iff,beq_iff_eq,Ajd,decide_eq_true_eq];exact eq_comm
theorem Azw {r:api_Row} {rs:List api_Row} {c:api_CFD} {L:List Nat}:satK (r::rs) (Af9 c L L.length)=Ac6 c L r:=by
 unfold Ac6 Af9;rw [satK,List.all_flatMap];exact congrArg (fun p=>(List.range L.length).all p) (funext fun k=>Av7)
theorem Azv {r s:api_Row} {i:Int}:satK [r,s] [Abx 1 i]=decide (vAt r i.toNat=vAt s i.toNat):=by
 simp only [satK,List.all_cons,List.all_nil,Bool.and_true,Abx,opK1,val1,val2];rw [Bool.eq_iff_iff,beq_iff_eq,Ajd,decide_eq_true_eq]
theorem Azx {r s:api_Row} {c:api_CFD} {L:List Nat}:satK [r,s] (Aeg c L L.length)=true↔Ac6 c L r=true/\∀ i∈L,vAt r i=vAt s i:=by
 unfold Aeg Ac6;rw [satK,List.all_flatMap,List.all_eq_true,List.all_eq_true];have one:∀ k,(Abx 1 ((L.getD k 0:Nat):Int)::cstC c L k).all (fun a=>opK a.Op (cmpV (valT [r,s] a.Left) (valT [r,s] a.Right)))=true↔vAt r (L.getD k 0)=vAt s (L.getD k 0)/\fitC (patC c k) (vAt r (L.getD k 0))=true:=fun k=>by
  have h1:=Azv (r:=r) (s:=s) (i:=((L.getD k 0:Nat):Int));have h2:=Av7 (r:=r) (rs:=[s]) (c:=c) (L:=L) (k:=k);unfold satK at h1 h2;rw [List.all_cons,h2];simp only [List.all_cons,List.all_nil,Bool.and_true] at h1;rw [h1,Bool.and_eq_true,decide_eq_true_eq,Int.toNat_natCast]
 simp only [one];constructor
 ·intro h;refine ⟨fun k hk=>(h k hk).2,fun i hi=>?_⟩;obtain ⟨k,hk,rfl⟩:=List.getElem_of_mem hi;have:=(h k (List.mem_range.2 hk)).1
  rwa [List.getD_eq_getElem?_getD,List.getElem?_eq_getElem hk] at this
 ·intro h k hk;refine ⟨?_,h.1 k hk⟩;have hk:=List.mem_range.1 hk;refine h.2 _ ?_;rw [List.getD_eq_getElem?_getD,List.getElem?_eq_getElem hk];exact List.getElem_mem hk
theorem Aqe {r s:api_Row} {c:api_CFD} {L:List Nat} (h:∀ i∈L,vAt r i=vAt s i):Ac6 c L r=Ac6 c L s:=by
 unfold Ac6;rw [Bool.eq_iff_iff,List.all_eq_true,List.all_eq_true];have e:∀ k∈List.range L.length,vAt r (L.getD k 0)=vAt s (L.getD k 0):=fun k hk=>by
  have hk:=List.mem_range.1 hk;refine h _ ?_;rw [List.getD_eq_getElem?_getD,List.getElem?_eq_getElem hk];exact List.getElem_mem hk
 exact ⟨fun h k hk=>by rw [← e k hk];exact h k hk,fun h k hk=>by rw [e k hk];exact h k hk⟩
theorem Bc5 {t:api_Table} {n:Nat} {c:api_CFD} {L:List Nat} (hT:TV t) (hc:CndOK n c L) {x:List Int}:(∃ d∈dlC c L,VioS t d x)↔VioC t c L x:=by
 have two:VioS t ⟨2,Aeg c L L.length++[Abx 2 c.Rhs]⟩ x↔∃ r s,Pr t.Rows r s/\Ac6 c L r=true/\Ac6 c L s=true/\Aha c L r s=true/\x=[r.ID,s.ID]:=by
  have hk:∀ r s:api_Row,satK [r,s] (Aeg c L L.length++[Abx 2 c.Rhs])=true↔Ac6 c L r=true/\(∀ i∈L,vAt r i=vAt s i)/\vAt r c.Rhs.toNat≠vAt s c.Rhs.toNat:=fun r s=>by
   rw [Aiw,Bool.and_eq_true,Azx,and_assoc];have:satK [r,s] [Abx 2 c.Rhs]=true↔vAt r c.Rhs.toNat≠vAt s c.Rhs.toNat:=by
    simp only [satK,List.all_cons,List.all_nil,Bool.and_true,Abx,opK2,val1,val2,bne_iff_ne,Ne,Ajd]
   rw [this]
  have hpr:∀ r s:api_Row,Aha c L r s=true↔(∀ i∈L,vAt r i=vAt s i)/\vAt r c.Rhs.toNat≠vAt s c.Rhs.toNat:=fun r s=>by
   unfold Aha;rw [Bool.and_eq_true,Bool.not_eq_true',Bool.not_eq_true',decide_eq_false_iff_not,List.any_eq_false];simp only [Bool.not_eq_true',decide_eq_false_iff_not,Classical.not_not];exact ⟨fun h=>⟨h.2,h.1⟩,fun h=>⟨h.2,h.1⟩⟩
  unfold VioS;rw [if_neg (by show ¬ (2:Int)=1;decide)];simp only [hk,hpr];constructor
  ·rintro ⟨r,hr,s,hs,hne,⟨h1,h2,h3⟩,rfl⟩;rcases Bbh hr hs hne with h | h
   ·have:=Anh hT h;exact ⟨r,s,h,h1,by rw [← Aqe h2];exact h1,⟨h2,h3⟩,by rw [Adv,if_neg (by omega)]⟩
   ·have:=Anh hT h;exact ⟨s,r,h,by rw [← Aqe h2];exact h1,h1,⟨fun i hi=>(h2 i hi).symm,fun e=>h3 e.symm⟩,by rw [Adv,if_pos (by omega)]⟩
  ·rintro ⟨r,s,h,h1,_,⟨h2,h3⟩,rfl⟩;have hm:=Atx h;have:=Anh hT h;exact ⟨r,hm.1,s,hm.2,by omega,⟨h1,h2,h3⟩,by rw [Adv,if_neg (by omega)]⟩
 unfold dlC
 split
 ·rename_i ha;simp only [List.mem_singleton,exists_eq_left,two];unfold VioC;constructor
  ·exact .inr
  ·rintro (⟨r,_,_,h,_⟩ | h)
   ·unfold Afn fitC at h;rw [ha] at h;cases h
   ·exact h
 ·rename_i ha;have one:VioS t ⟨1,Af9 c L L.length++[isK 2 c.Rhs (patC c L.length).Value]⟩ x↔∃ r∈t.Rows,Ac6 c L r=true/\Afn c L r=false/\x=[r.ID]:=by
   unfold VioS;rw [if_pos rfl];have hk:∀ r:api_Row,satK [r] (Af9 c L L.length++[isK 2 c.Rhs (patC c L.length).Value])=true↔Ac6 c L r=true/\Afn c L r=false:=fun r=>by
    rw [Aiw,Bool.and_eq_true,Azw];have:satK [r] [isK 2 c.Rhs (patC c L.length).Value]=true↔Afn c L r=false:=by
     simp only [satK,List.all_cons,List.all_nil,Bool.and_true,isK,opK2,val1,val0,bne_iff_ne,Ne,Ajd];unfold Afn fitC;rw [Bool.eq_false_iff.2 ha,Bool.false_or,decide_eq_false_iff_not];exact ⟨fun h e=>h e.symm,fun h e=>h e.symm⟩
    rw [this]
   simp only [hk,and_assoc]
  simp only [List.mem_cons,List.not_mem_nil,or_false,exists_eq_or_imp,exists_eq_left,one,two];exact Iff.rfl
theorem Ap4 {r s:api_Row}:∀ {l:List Nat},lexO cmpA s r l = -lexO cmpA r s l
 | []=>rfl
 | a::l=>by
  have ih:=Ap4 (r:=r) (s:=s) (l:=l);have e:cmpA s r a = -cmpA r s a:=Asa;simp only [lexO,e,ih];by_cases h:cmpA r s a=0
  ·rw [if_pos h,if_pos (by omega)]
  ·rw [if_neg h,if_neg (by omega)]
def badO (X Y:List Nat) (a b:api_Row):Bool:=!decide ((lexO cmpA a b X=0->lexO cmpA a b Y=0)/\¬ lexO cmpA a b X*lexO cmpA a b Y<0)
theorem Ayv {X Y:List Nat} {a b:api_Row}:badO X Y a b=false↔Ala a b X Y:=by
 unfold badO Ala;rw [Bool.not_eq_false',decide_eq_true_eq]
def wayO (X Y:List Nat) (a b:api_Row):Prop:=lexO cmpA a b X<=0/\0<lexO cmpA a b Y
theorem Aow {X Y:List Nat} {a b:api_Row}:badO X Y a b=true↔wayO X Y a b∨wayO X Y b a:=by
 unfold badO wayO;rw [Bool.not_eq_true',decide_eq_false_iff_not,Ap4 (r:=a) (s:=b) (l:=X),Ap4 (r:=a) (s:=b) (l:=Y)];have h1:=Ahl (r:=a) (s:=b) (l:=X);have h2:=Ahl (r:=a) (s:=b) (l:=Y);generalize lexO cmpA a b X=p at *;generalize lexO cmpA a b Y=q at *;have hp:p = -1∨p=0∨p=1:=by omega
 have hq:q = -1∨q=0∨q=1:=by omega
 rcases hp with rfl | rfl | rfl<;>rcases hq with rfl | rfl | rfl<;>decide
def vioL (X Y:List Nat):List api_Row->List (List Int)
 | []=>[]
 | a::l=>(l.filter (badO X Y a)).map (fun b=>[a.ID,b.ID])++vioL X Y l
theorem Alt {X Y:List Nat} {x:List Int}:∀ {l:List api_Row},x∈vioL X Y l↔∃ a b,Pr l a b/\badO X Y a b=true/\x=[a.ID,b.ID]
 | []=>by
  simp only [vioL,List.not_mem_nil,false_iff];rintro ⟨a,b,h,_⟩;exact Apk h
 | a::l=>by
  rw [vioL,List.mem_append,Alt,List.mem_map];simp only [List.mem_filter,Ang];constructor
  ·rintro (⟨b,⟨h1,h2⟩,rfl⟩ | ⟨p,q,h,h2⟩)
   ·exact ⟨a,b,.inl ⟨rfl,h1⟩,h2,rfl⟩
   ·exact ⟨p,q,.inr h,h2⟩
  ·rintro ⟨p,q,⟨rfl,h1⟩ | h,h2,h3⟩
   ·exact .inl ⟨q,⟨h1,h2⟩,h3.symm⟩
   ·exact .inr ⟨p,q,h,h2,h3⟩
theorem Avd {X Y:List Nat}:∀ {l:List api_Row},l.Pairwise (fun a b=>a.ID<b.ID)->StrL (vioL X Y l)
 | [],_=>List.Pairwise.nil
 | a::l,h=>by
  have h':=List.pairwise_cons.1 h;unfold StrL;rw [vioL,List.pairwise_append];refine ⟨?_,Avd h'.2,?_⟩
  ·rw [List.pairwise_map];refine List.Pairwise.imp ?_ (h'.2.filter _);intro p q hpq;simp only [befL,if_true];rw [if_neg (by omega),decide_eq_true_eq];exact hpq
  ·intro x hx y hy;obtain ⟨b,_,rfl⟩:=List.mem_map.1 hx;obtain ⟨p,q,hp,_,rfl⟩:=Alt.1 hy;have:=h'.1 p (Atx hp).1;simp only [befL];rw [if_neg (by omega),decide_eq_true_eq];exact this
section
variable {t:api_Table} {X Y:List Nat} (hT:TV t) (hx:∀ i∈X,i<t.Attrs.length) (hX:X.length<=8) (hy:∀ i∈Y,i<t.Attrs.length) (hY:Y.length<=8)
include hT hx hX hy hY
theorem q26_.ok:q26_.C t (nI X) (nI Y) 0:=by
 obtain ⟨q,q1,q2⟩:=q40_.enter (t.Attrs.length:Int) (nI X) (nI Y) (fun q=>q=true) ⟨_,q71_.ok hx hX hy hY,rfl⟩;subst q1;obtain ⟨r,h1,h2⟩:=q26_.enter t (nI X) (nI Y) (fun r=>r=0) ⟨_,q91_.spec,by
  rw [if_pos (Alq.2 hT)]
  exact ⟨_,q2,by rw [if_pos rfl]⟩⟩
 subst h1;exact h2
theorem q44_.spec (h10:t.Rows.length<=10):q44_.C t ⟨nI X,nI Y⟩ (vioL X Y t.Rows,0):=by
 have go:∀ (R:List api_Row) (k:Nat) (acc:List (List Int)),t.Rows.drop k=R->acc.length<=k*10->acc++vioL X Y R=vioL X Y t.Rows->q44_.L1 t ⟨nI X,nI Y⟩ acc k fun r=>r=(vioL X Y t.Rows,0):=by
  intro R
  induction R with
  | nil=>
   intro k acc hd ha h;have hge:=Abg hd;apply q44_.L1_step;rw [if_neg (by omega)];rw [← h];simp [vioL]
  | cons a R ih=>
   intro k acc hd ha h;have hlt:=Abh hd;have ham:=List.mem_of_getElem? (Aas hd);have hRl:R.length=t.Rows.length-(k+1):=by have:=congrArg List.length (Aah hd);rw [List.length_drop] at this;omega
   apply q44_.L1_step;rw [if_pos (by omega),Aa6 (by omega)];refine ⟨a,Ac0 hd,by omega,by omega,?_⟩;rw [Int.toNat_natCast,Aah hd,List.take_of_length_le (by omega)];have inner:∀ (Q:List api_Row) (j:Nat) (ac:List (List Int)),R.drop j=Q->ac.length<=k*10+j->ac++((Q.filter (badO X Y a)).map fun b=>[a.ID,b.ID])=acc++((R.filter (badO X Y a)).map fun b=>[a.ID,b.ID])->q44_.L2 t ⟨nI X,nI Y⟩ ac a k R R.length j fun r=>r=(vioL X Y t.Rows,0):=by
    intro Q
    induction Q with
    | nil=>
     intro j ac hj hac e;have hge:=Abg hj;have hle:ac.length<=(k+1)*10:=by
      have:=congrArg List.length e;simp only [List.filter_nil,List.map_nil,List.append_nil,List.length_append,List.length_map] at this;have:=List.length_filter_le (badO X Y a) R;omega
     apply q44_.L2_step;rw [if_neg (by omega),Aa6 (by omega)];refine ih (k+1) ac (Aah hd) hle ?_;rw [← h,vioL,← List.append_assoc,← e];simp
    | cons b Q ih2=>
     intro j ac hj hac e;have hlt2:=Abh hj;have hbm:b∈t.Rows:=by
      have:=List.mem_of_getElem? (Aas hj);rw [← Aah hd] at this;exact List.mem_of_mem_drop this
     obtain ⟨q,q1,q2⟩:=q82_.spec (a:=a) (b:=b) (X:=X) (Y:=Y) (Ayz hT hx hy ham) (Ayz hT hx hy hbm) (by omega) (by omega);rw [← Ayv] at q2;apply q44_.L2_step;rw [if_pos (by omega)];refine ⟨b,Ac0 hj,q,q1,?_⟩
     split
     ·rename_i h0;rw [List.filter_cons_of_neg (by rw [q2.1 h0];decide)] at e;apply q44_.L3_step;rw [Aa6 (by omega)];exact ih2 (j+1) ac (Aah hj) (by omega) e
     ·rename_i h0;rw [List.filter_cons_of_pos (by cases hb:badO X Y a b with | true=>rfl | false=>exact absurd (q2.2 hb) h0)] at e;refine ⟨by omega,?_⟩;apply q44_.L3_step;rw [Aa6 (by omega)];refine ih2 (j+1) _ (Aah hj) (by simp only [List.length_append,List.length_singleton];omega) ?_;rw [← e];simp
   exact inner R 0 acc rfl (by omega) rfl
 obtain ⟨r,h1,h2⟩:=q44_.enter t ⟨nI X,nI Y⟩ (fun r=>r=(vioL X Y t.Rows,0)) ⟨_,q26_.ok hT hx hX hy hY,by
  rw [if_pos rfl]
  exact go t.Rows 0 [] rfl (by simp) rfl⟩
 rw [← h1];exact h2
end
def ltK (y:Int):api_Atom:=⟨⟨2,y,Adb⟩,3,⟨1,y,Adb⟩⟩
def eqsK (l:List Nat):List api_Atom:=l.map fun (i:Nat)=>Abx 1 (i:Int)
def Aq7 (X:List Nat) (i:Nat):List api_Atom:=eqsK (X.take i)++if i<X.length then [Abx 3 ((X.getD i 0:Nat):Int)] else []
def denO (X Y:List Nat) (i j:Nat):api_Denial:=⟨2,Aq7 X i++eqsK (Y.take j)++[ltK ((Y.getD j 0:Nat):Int)]⟩
def rowO (X Y:List Nat) (i:Nat):List api_Denial:=(List.range Y.length).map (denO X Y i)
def odL (X Y:List Nat):List api_Denial:=(List.range (X.length+1)).flatMap (rowO X Y)
theorem Afz {l:List Nat} {k:Nat} (h:k<l.length):l[k]? = some (l.getD k 0):=by rw [List.getD_eq_getElem?_getD,List.getElem?_eq_getElem h];rfl
theorem Ase {l:List Nat} {k:Nat} (h:k<l.length):eqsK (l.take (k+1))=eqsK (l.take k)++[Abx 1 ((l.getD k 0:Nat):Int)]:=by
 unfold eqsK;rw [List.take_add_one,Afz h];simp
theorem Agt {l:List Nat} {k:Nat}:(eqsK (l.take k)).length<=l.length:=by
 unfold eqsK;rw [List.length_map,List.length_take];omega
theorem q87_.spec {n:Nat} {X0 Y0:List Nat} (hn:n<=16) (hx:∀ i∈X0,i<n) (hX:X0.length<=8) (hy:∀ i∈Y0,i<n) (hY:Y0.length<=8):q87_.C n ⟨nI X0,nI Y0⟩ (odL (Ab2 [] X0) (Ab2 [] Y0),0):=by
 obtain ⟨r0,n1,n2⟩:=q68_.enter ⟨nI X0,nI Y0⟩ (fun r=>r=⟨nI (Ab2 [] X0),nI (Ab2 [] Y0)⟩) ⟨_,q84_.spec (by omega),_,q84_.spec (by omega),rfl⟩;subst n1;have lX:=Ain (l:=X0) (out:=[]);have lY:=Ain (l:=Y0) (out:=[]);simp only [List.length_nil,Nat.zero_add] at lX lY;generalize Ab2 [] X0=X at *;generalize Ab2 [] Y0=Y at *;have nl:∀ l:List Nat,(nI l).length=l.length:=fun l=>by simp [nI]
 obtain ⟨r,h1,h2⟩:=q87_.enter n ⟨nI X0,nI Y0⟩ (fun r=>r=(odL X Y,0)) ⟨_,q76_.ok hn,by
  rw [if_pos rfl];refine ⟨_,q71_.ok hx hX hy hY,?_⟩;rw [if_pos rfl];refine ⟨_,n2,?_⟩;have l4:∀ (acc:List api_Denial) (base:List api_Atom) (i j:Nat) (φ:List api_Denial×Int->Prop),j<Y.length->acc.length<=100->base.length<=20->q87_.L2 ⟨nI X0,nI Y0⟩ ⟨nI X,nI Y⟩ (acc++[⟨2,base++eqsK (Y.take j)++[ltK ((Y.getD j 0:Nat):Int)]⟩]) i i ((j+1:Nat):Int) φ->q87_.L5 ⟨nI X0,nI Y0⟩ ⟨nI X,nI Y⟩ acc i j base i j φ:=by
   intro acc base i j φ hj ha hb h;have le:=Agt (l:=Y) (k:=j);apply q87_.L5_step;simp only [Int.toNat_natCast,Nat.sub_zero,List.drop_zero,nl,List.length_take,Nat.zero_add];refine ⟨by omega,⟨by omega,by omega⟩,by omega,?_⟩;rw [Nat.min_eq_left (by omega)];have:∀ k,k<=j->q87_.L4 ⟨nI X0,nI Y0⟩ ⟨nI X,nI Y⟩ acc i j (base++eqsK (Y.take k)) i j j (j:Nat) (k:Nat) φ:=by
    refine down ?_ ?_
    ·apply q87_.L4_step;rw [if_neg (by omega)];refine ⟨((Y.getD j 0:Nat):Int),Aap (Af2 (Afz hj)),_,q95_.spec,_,q95_.spec,by simp only [List.length_append];omega,by omega,?_⟩;rw [Aa6 (by omega)];exact h
    ·intro k hk h2;have lk:=Agt (l:=Y) (k:=k);apply q87_.L4_step;rw [if_pos (by omega),Int.zero_add,Aa6 (by omega)];refine ⟨((Y.getD k 0:Nat):Int),Aap (Af2 (Afz (by omega))),⟨by omega,by omega⟩,by rw [nl];omega,_,q92_.spec,by simp only [List.length_append];omega,?_⟩;rw [Ase (by omega),← List.append_assoc] at h2;exact h2
   have:=this 0 (Nat.zero_le _);simpa [eqsK] using this
  have l2:∀ (acc:List api_Denial) (i j:Nat) (φ:List api_Denial×Int->Prop),i<=X.length->j<Y.length->acc.length<=100->q87_.L2 ⟨nI X0,nI Y0⟩ ⟨nI X,nI Y⟩ (acc++[denO X Y i j]) i i ((j+1:Nat):Int) φ->q87_.L2 ⟨nI X0,nI Y0⟩ ⟨nI X,nI Y⟩ acc i i j φ:=by
   intro acc i j φ hi hj ha h;have le:=Agt (l:=X) (k:=i);apply q87_.L2_step;simp only [Int.toNat_natCast,Nat.sub_zero,List.drop_zero,nl,List.length_take,Nat.zero_add];rw [if_pos (by omega)];refine ⟨by omega,⟨by omega,by omega⟩,by omega,?_⟩;rw [Nat.min_eq_left (by omega)];have:∀ k,k<=i->q87_.L3 ⟨nI X0,nI Y0⟩ ⟨nI X,nI Y⟩ acc i j (eqsK (X.take k)) i j i (i:Nat) (k:Nat) φ:=by
    refine down ?_ ?_
    ·apply q87_.L3_step;rw [if_neg (by omega),nl];unfold denO Aq7 at h
     split
     ·rename_i hl;rw [if_pos (by omega)] at h;refine ⟨((X.getD i 0:Nat):Int),Aap (Af2 (Afz (by omega))),_,q92_.spec,by omega,?_⟩;exact l4 acc _ i j φ hj ha (by simp only [List.length_append,List.length_singleton];omega) h
     ·rename_i hl;rw [if_neg (by omega),List.append_nil] at h;exact l4 acc _ i j φ hj ha (by omega) h
    ·intro k hk h2;have lk:=Agt (l:=X) (k:=k);apply q87_.L3_step;rw [if_pos (by omega),Int.zero_add,Aa6 (by omega)];refine ⟨((X.getD k 0:Nat):Int),Aap (Af2 (Afz (by omega))),⟨by omega,by omega⟩,by rw [nl];omega,_,q92_.spec,by omega,?_⟩;rw [Ase (by omega)] at h2;exact h2
   have:=this 0 (Nat.zero_le _);simpa [eqsK] using this
  have row:∀ (acc:List api_Denial) (i:Nat) (φ:List api_Denial×Int->Prop),i<=X.length->acc.length<=90->q87_.L1 ⟨nI X0,nI Y0⟩ ⟨nI X,nI Y⟩ (acc++rowO X Y i) ((i+1:Nat):Int) φ->q87_.L2 ⟨nI X0,nI Y0⟩ ⟨nI X,nI Y⟩ acc i i (0:Nat) φ:=by
   intro acc i φ hi ha h;have:∀ j,j<=Y.length->q87_.L2 ⟨nI X0,nI Y0⟩ ⟨nI X,nI Y⟩ (acc++(List.range j).map (denO X Y i)) i i (j:Nat) φ:=by
    refine down ?_ ?_
    ·apply q87_.L2_step;rw [nl,if_neg (by omega),Aa6 (by omega)];exact h
    ·intro j hj h2;refine l2 _ i j φ hi hj (by simp only [List.length_append,List.length_map,List.length_range];omega) ?_;rw [List.range_succ,List.map_append,← List.append_assoc] at h2;exact h2
   have:=this 0 (Nat.zero_le _);simpa using this
  have rl:∀ i,((List.range i).flatMap (rowO X Y)).length<=i*8:=fun i=>by
   induction i with
   | zero=>simp
   | succ i ih=>
    rw [List.range_succ,List.flatMap_append,List.length_append];have:(([i]:List Nat).flatMap (rowO X Y)).length<=8:=by simp [rowO];omega
    omega
  have all:∀ i,i<=X.length+1->q87_.L1 ⟨nI X0,nI Y0⟩ ⟨nI X,nI Y⟩ ((List.range i).flatMap (rowO X Y)) (i:Nat) fun r=>r=(odL X Y,0):=by
   refine down ?_ ?_
   ·apply q87_.L1_step;rw [nl,Aa6 (by omega),if_neg (by omega)];rfl
   ·intro i hi h;have:=rl i;apply q87_.L1_step;rw [nl,Aa6 (by omega),if_pos (by omega)];refine row _ i _ (by omega) (by omega) ?_;rw [List.range_succ,List.flatMap_append] at h;simpa using h
  have:=all 0 (Nat.zero_le _)
  simpa using this⟩
 rw [← h1];exact h2
theorem Bdk {X Y:List Nat} (hX:X.length<=8) (hY:Y.length<=8):(odL X Y).length<=100:=by
 have rl:∀ i,((List.range i).flatMap (rowO X Y)).length<=i*8:=fun i=>by
  induction i with
  | zero=>simp
  | succ i ih=>
   rw [List.range_succ,List.flatMap_append,List.length_append];have:(([i]:List Nat).flatMap (rowO X Y)).length<=8:=by simp [rowO];omega
   omega
 have:=rl (X.length+1);unfold odL;omega
theorem Aro {X Y:List Nat} {d:api_Denial}:d∈odL X Y↔∃ i j,i<=X.length/\j<Y.length/\d=denO X Y i j:=by
 unfold odL rowO;simp only [List.mem_flatMap,List.mem_range,List.mem_map];constructor
 ·rintro ⟨i,hi,j,hj,rfl⟩;exact ⟨i,j,by omega,hj,rfl⟩
 ·rintro ⟨i,j,hi,hj,rfl⟩;exact ⟨i,by omega,j,hj,rfl⟩
theorem Ax2 {n:Nat} {op:Int} {i:Nat} (h1:1<=op) (h4:op<=4) (hi:i<n):Ahu n 2 (Abx op i)/\Afj n (2:Int).toNat (Abx op i):=by
 have a1:=varV (n:=n) (v:=2) (w:=1) (i:=i) (by decide) (by decide) (by omega) (by omega);have a2:=varV (n:=n) (v:=2) (w:=2) (i:=i) (by decide) (by decide) (by omega) (by omega);exact ⟨⟨h1,h4,a1.1,a2.1⟩,a1.2,a2.2⟩
theorem Bc4 {n:Nat} {X Y:List Nat} {i j:Nat} (hx:∀ i∈X,i<n) (hX:X.length<=8) (hy:∀ i∈Y,i<n) (hY:Y.length<=8) (hj:j<Y.length):DenOK n (denO X Y i j):=by
 have l1:=Agt (l:=X) (k:=i);have l2:=Agt (l:=Y) (k:=j);have all:∀ b∈(denO X Y i j).Atoms,Ahu n 2 b/\Afj n (2:Int).toNat b:=fun b hb=>by
  simp only [denO,Aq7,eqsK,List.mem_append,List.mem_map,List.mem_singleton] at hb;rcases hb with ((⟨k,hk,rfl⟩ | hb) | ⟨k,hk,rfl⟩) | rfl
  ·exact Ax2 (by decide) (by decide) (hx k (List.mem_of_mem_take hk))
  ·split at hb
   ·rename_i hi;rw [List.mem_singleton.1 hb];exact Ax2 (by decide) (by decide) (hx _ (List.mem_of_getElem? (Afz hi)))
   ·cases hb
  ·exact Ax2 (by decide) (by decide) (hy k (List.mem_of_mem_take hk))
  ·have hl:=hy _ (List.mem_of_getElem? (Afz hj));have a1:=varV (n:=n) (v:=2) (w:=1) (i:=((Y.getD j 0:Nat):Int)) (by decide) (by decide) (by omega) (by omega);have a2:=varV (n:=n) (v:=2) (w:=2) (i:=((Y.getD j 0:Nat):Int)) (by decide) (by decide) (by omega) (by omega);exact ⟨⟨by show (1:Int)<=3;decide,by show (3:Int)<=4;decide,a2.1,a1.1⟩,a2.2,a1.2⟩
 refine ⟨.inr rfl,?_,fun b hb=>(all b hb).1,fun b hb=>(all b hb).2⟩;have l3:(if i<X.length then [Abx 3 ((X.getD i 0:Nat):Int)] else []).length<=1:=by split<;>simp
 simp only [denO,Aq7,List.length_append,List.length_singleton];omega
theorem Av6 {r s:api_Row} {l:List Nat}:satK [r,s] (eqsK l)=true↔∀ a∈l,cmpA r s a=0:=by
 unfold satK eqsK;rw [List.all_map,List.all_eq_true];simp only [Function.comp,Abx,opK1,val1,val2,beq_iff_eq,Int.toNat_natCast];exact Iff.rfl
theorem Apb {r s:api_Row} {X Y:List Nat} {i j:Nat}:satK [r,s] (denO X Y i j).Atoms=true↔((∀ a∈X.take i,cmpA r s a=0)/\(i<X.length->cmpA r s (X.getD i 0)<0))/\(∀ a∈Y.take j,cmpA r s a=0)/\0<cmpA r s (Y.getD j 0):=by
 unfold denO Aq7;have e1:satK [r,s] [ltK ((Y.getD j 0:Nat):Int)]=true↔0<cmpA r s (Y.getD j 0):=by
  simp only [satK,List.all_cons,List.all_nil,Bool.and_true,ltK,opK3,val1,val2,Int.toNat_natCast,decide_eq_true_eq];have:cmpV (vAt s (Y.getD j 0)) (vAt r (Y.getD j 0)) = -cmpA r s (Y.getD j 0):=Asa;rw [this];omega
 have e2:satK [r,s] (if i<X.length then [Abx 3 ((X.getD i 0:Nat):Int)] else [])=true↔(i<X.length->cmpA r s (X.getD i 0)<0):=by
  split
  ·rename_i h;simp only [h,true_implies,satK,List.all_cons,List.all_nil,Bool.and_true,Abx,opK3,val1,val2,Int.toNat_natCast,decide_eq_true_eq];exact Iff.rfl
  ·rename_i h;exact ⟨fun _ h'=>absurd h' h,fun _=>rfl⟩
 rw [Aiw,Aiw,Aiw,Bool.and_eq_true,Bool.and_eq_true,Bool.and_eq_true,Av6,Av6,e1,e2,and_assoc]
theorem Awy {r s:api_Row} {X Y:List Nat}:(∃ i j,i<=X.length/\j<Y.length/\satK [r,s] (denO X Y i j).Atoms=true)↔wayO X Y r s:=by
 have split:∀ {l:List Nat} {i:Nat},i<l.length->l=l.take i++l.getD i 0::l.drop (i+1):=fun {l i} h=>by
  have e:l.getD i 0=l[i]:=by rw [List.getD_eq_getElem?_getD,List.getElem?_eq_getElem h];rfl
  rw [e,← List.drop_eq_getElem_cons h,List.take_append_drop]
 have at_:∀ {l:List Nat} {i:Nat},i<l.length->(∀ a∈l.take i,cmpA r s a=0)->cmpA r s (l.getD i 0)≠0->lexO cmpA r s l=cmpA r s (l.getD i 0):=fun {l i} h h1 h2=>by
  conv=>lhs;rw [split h]
  exact Azf h1 h2
 have nz:∀ {l:List Nat},lexO cmpA r s l≠0->∃ i,i<l.length/\(∀ a∈l.take i,cmpA r s a=0)/\cmpA r s (l.getD i 0)=lexO cmpA r s l:=fun {l} h=>by
  obtain ⟨A,a,B,rfl,hA,ha⟩:=Azg h;refine ⟨A.length,by simp,fun b hb=>hA b (by simpa using hb),?_⟩;rw [Azf hA ha];simp
 unfold wayO;constructor
 ·rintro ⟨i,j,hi,hj,h⟩;obtain ⟨⟨h1,h2⟩,h3,h4⟩:=Apb.1 h;refine ⟨?_,by rw [at_ hj h3 (by omega)];exact h4⟩;by_cases hl:i<X.length
  ·have:=h2 hl;rw [at_ hl h1 (by omega)];omega
  ·rw [List.take_of_length_le (by omega)] at h1;rw [Ail.2 h1];decide
 ·rintro ⟨h1,h2⟩;obtain ⟨j,hj,j1,j2⟩:=nz (l:=Y) (by omega);by_cases h0:lexO cmpA r s X=0
  ·refine ⟨X.length,j,Nat.le_refl _,hj,Apb.2 ⟨⟨?_,fun h=>absurd h (Nat.lt_irrefl _)⟩,j1,by omega⟩⟩;rw [List.take_length];exact Ail.1 h0
  ·obtain ⟨i,hi,i1,i2⟩:=nz (l:=X) h0;exact ⟨i,j,by omega,hj,Apb.2 ⟨⟨i1,fun _=>by omega⟩,j1,by omega⟩⟩
theorem Bdl {t:api_Table} {X Y:List Nat} (hT:TV t) {x:List Int}:(∃ d∈odL (Ab2 [] X) (Ab2 [] Y),VioS t d x)↔x∈vioL X Y t.Rows:=by
 rw [Alt];have w:∀ r s,wayO (Ab2 [] X) (Ab2 [] Y) r s↔wayO X Y r s:=fun r s=>by
  unfold wayO;rw [Ap3,Ap3,List.nil_append,List.nil_append]
 have e:(∃ d∈odL (Ab2 [] X) (Ab2 [] Y),VioS t d x)↔∃ r∈t.Rows,∃ s∈t.Rows,s.ID≠r.ID/\wayO X Y r s/\x=srt2 [r.ID,s.ID]:=by
  constructor
  ·rintro ⟨d,hd,hv⟩;obtain ⟨i,j,hi,hj,rfl⟩:=Aro.1 hd;unfold VioS at hv;rw [if_neg (by show ¬ (2:Int)=1;decide)] at hv;obtain ⟨r,hr,s,hs,hne,hsat,hx⟩:=hv;exact ⟨r,hr,s,hs,hne,(w r s).1 (Awy.1 ⟨i,j,hi,hj,hsat⟩),hx⟩
  ·rintro ⟨r,hr,s,hs,hne,hw,hx⟩;obtain ⟨i,j,hi,hj,hsat⟩:=Awy.2 ((w r s).2 hw);refine ⟨denO (Ab2 [] X) (Ab2 [] Y) i j,Aro.2 ⟨i,j,hi,hj,rfl⟩,?_⟩;unfold VioS;rw [if_neg (by show ¬ (2:Int)=1;decide)];exact ⟨r,hr,s,hs,hne,hsat,hx⟩
 rw [e];constructor
 ·rintro ⟨r,hr,s,hs,hne,hw,rfl⟩;rcases Bbh hr hs hne with h | h
  ·have:=Anh hT h;exact ⟨r,s,h,Aow.2 (.inl hw),by rw [Adv,if_neg (by omega)]⟩
  ·have:=Anh hT h;exact ⟨s,r,h,Aow.2 (.inr hw),by rw [Adv,if_pos (by omega)]⟩
 ·rintro ⟨a,b,h,hb,rfl⟩;have hm:=Atx h;have:=Anh hT h;rcases Aow.1 hb with hw | hw
  ·exact ⟨a,hm.1,b,hm.2,by omega,hw,by rw [Adv,if_neg (by omega)]⟩
  ·exact ⟨b,hm.2,a,hm.1,by omega,hw,by rw [Adv,if_pos (by omega)]⟩
end Go.Own
