/- What the functions answer. No conditions. -/
import Derived.Test.YtockohmmmlhhfadGreatDoorTopPlainLaw11
import Derived.Test.YtockohmmmlhhfadGreatDoorTopPlainLaw10
set_option linter.all false
namespace Go.Own
open Go.Sort
def befL:List Int->List Int->Bool
 | [],[]=>false
 | [],_::_=>true
 | _::_,[]=>false
 | a::r,b::s=>if a=b then befL r s else decide (a<b)
theorem Am5:∀ (x:List Int),befL x x=false
 | []=>rfl
 | a::r=>by rw [befL,if_pos rfl];exact Am5 r
theorem Am6:∀ {x y:List Int},befL x y=false->befL y x=false->x=y
 | [],[],_,_=>rfl
 | [],_::_,h,_=>by cases h
 | _::_,[],_,h=>by cases h
 | a::r,b::s,h,k=>by
  simp only [befL] at h k;by_cases e:a=b
  ·subst e;rw [if_pos rfl] at h k;rw [Am6 h k]
  ·rw [if_neg e,decide_eq_false_iff_not] at h;rw [if_neg (Ne.symm e),decide_eq_false_iff_not] at k;omega
theorem Aoz:∀ (x y z:List Int),befL x y=true->befL y z=true->befL x z=true
 | [],[],_,h,_=>by cases h
 | [],_::_,[],_,h=>by cases h
 | [],_::_,_::_,_,_=>rfl
 | _::_,[],_,h,_=>by cases h
 | _::_,_::_,[],_,h=>by cases h
 | a::r,b::s,c::t,h,k=>by
  simp only [befL] at h k ⊢;by_cases e:a=b
  ·subst e;rw [if_pos rfl] at h;by_cases e2:a=c
   ·rw [if_pos e2] at k ⊢;exact Aoz _ _ _ h k
   ·rw [if_neg e2] at k ⊢;exact k
  ·rw [if_neg e,decide_eq_true_eq] at h;by_cases e2:b=c
   ·subst e2;rw [if_neg e,decide_eq_true_eq];exact h
   ·rw [if_neg e2,decide_eq_true_eq] at k;rw [if_neg (by omega),decide_eq_true_eq];omega
theorem Bdo:SWO befL:=by
 refine ⟨Am5,Aoz,fun x y z h k=>?_⟩;cases e:befL x z with
 | false=>rfl
 | true=>
  cases e2:befL y x with
  | true=>rw [Aoz _ _ _ e2 e] at k;cases k
  | false=>
   have:=Am6 h e2;subst this;rw [e] at k;cases k
theorem q51_.spec {x y:List Int} (hx:x.length<=1000) (hy:y.length<=1000):q51_.C x y (befL x y):=by
 obtain ⟨r,h1,h2⟩:=q51_.enter x y (fun r=>r=befL x y) (by
  have go:∀ (p q:List Int) (k:Nat),x.drop k=p->y.drop k=q->k<=x.length->k<=y.length->befL p q=befL x y->q51_.L1 x y k fun r=>r=befL x y:=by
   intro p
   induction p with
   | nil=>
    intro q k hd he kx ky h;have hge:=Aar hd;apply q51_.L1_step;rw [if_neg (by omega)];apply q51_.L2_step;rw [← h];have hl:q.length=y.length-k:=by rw [← he,List.length_drop]
    cases q with
    | nil=>simp only [befL,decide_eq_false_iff_not];simp only [List.length_nil] at hl;omega
    | cons b q=>simp only [befL,decide_eq_true_eq];simp only [List.length_cons] at hl;omega
   | cons a p ih=>
    intro q k hd he kx ky h;have hlt:=Aas hd;apply q51_.L1_step;rw [if_pos (by omega)];cases q with
    | nil=>
     have hge:=Aar he;rw [if_neg (by omega)];apply q51_.L2_step;rw [← h];simp only [befL,decide_eq_false_iff_not];omega
    | cons b q=>
     have hlt2:=Aas he;rw [if_pos (by omega)];refine ⟨a,Aaz hd,b,Aaz he,?_⟩;simp only [befL] at h
     split
     ·rename_i e;rw [if_pos e] at h;rw [Aa4 (by omega)];exact ih q (k+1) (Aa8 hd) (Aa8 he) (by omega) (by omega) h
     ·rename_i e;rw [if_neg e] at h;exact h
  exact go x y 0 rfl rfl (by omega) (by omega) rfl)
 rw [← h1];exact h2
theorem Aqu {x y:List Int} (hx:x.length<=1000) (hy:y.length<=1000):∃ r,q33_.C x y r/\(r<0↔befL x y=true):=by
 obtain ⟨r,h1,h2⟩:=q33_.enter x y (fun r=>r<0↔befL x y=true) (by
  have go:∀ (p q:List Int) (k:Nat),x.drop k=p->y.drop k=q->k<=x.length->k<=y.length->befL p q=befL x y->q33_.L1 x y k fun r=>r<0↔befL x y=true:=by
   intro p
   induction p with
   | nil=>
    intro q k hd he kx ky h;have hge:=Aar hd;apply q33_.L1_step;rw [if_neg (by omega),← h];have hl:q.length=y.length-k:=by rw [← he,List.length_drop]
    cases q with
    | nil=>simp only [List.length_nil] at hl;rw [if_neg (by omega)];simp [befL]
    | cons b q=>simp only [List.length_cons] at hl;rw [if_pos (by omega)];simp [befL]
   | cons a p ih=>
    intro q k hd he kx ky h;have hlt:=Aas hd;apply q33_.L1_step;rw [if_pos (by omega)];refine ⟨a,Aaz hd,?_⟩;cases q with
    | nil=>
     have hge:=Aar he;rw [if_pos (by omega),← h];simp [befL]
    | cons b q=>
     have hlt2:=Aas he;rw [if_neg (by omega)];refine ⟨b,Aaz he,_,An1,?_⟩;simp only [befL] at h;by_cases e:a=b
     ·subst e;rw [if_pos rfl] at h;rw [if_pos (by unfold cmpI;simp),Aa4 (by omega)];exact ih q (k+1) (Aa8 hd) (Aa8 he) (by omega) (by omega) h
     ·rw [if_neg e] at h;rw [← h,if_neg (show ¬ cmpI a b=0 from fun hh=>e (Agl.1 hh))];unfold cmpI
      split
      ·rename_i h3;simp [h3]
      ·rename_i h3;rw [if_pos (by omega)];simp;omega
  exact go x y 0 rfl rfl (by omega) (by omega) rfl)
 exact ⟨r,h2,h1⟩
theorem Bla {l:List (List Int)} (hl:l.length<4611686018427387904) (hp:∀ x∈l,x.length<=1000):∃ r,q9_.C l r/\r.Perm l/\r.Pairwise (fun a b=>befL b a=false):=
 q9_.spec (p:=fun x=>x.length<=1000) (lt:=befL) (fun _ _ hx hy=>Aqu hx hy) Bdo hl hp
def StrL (l:List (List Int)):Prop:=l.Pairwise fun a b=>befL a b=true
open D
theorem Bkk {α:Type} {A B:List α} {a x:α}:lset (lset (A++a::x::B) ((A.length+1:Nat):Int) a) (A.length:Int) x=A++x::a::B:=by
 unfold lset;rw [Int.toNat_natCast,Int.toNat_natCast];rw [List.set_append,if_neg (by omega),show A.length+1-A.length=1 by omega];rw [List.set_append,if_neg (by omega),Nat.sub_self];rfl
theorem q77_.spec {l:List (List Int)} {x:List Int} (hl:l.length<=100000) (hx:x.length<=1000) (hp:∀ y∈l,y.length<=1000) (hs:StrL l):∃ r,q77_.C x l r/\StrL r/\r.length<=l.length+1/\∀ y,y∈r↔y∈l∨y=x:=by
 have bub:x ∉ l->∀ (n:Nat) (A B:List (List Int)),A.length=n->A++B=l->(∀ b∈B,befL x b=true)->q77_.L3 (A++x::B) (n:Int) fun r=>StrL r/\r.length<=l.length+1/\∀ y,y∈r↔y∈l∨y=x:=by
  intro hnx n;have fin:∀ (A B:List (List Int)),A++B=l->(∀ b∈B,befL x b=true)->(∀ a∈A,befL a x=true)->StrL (A++x::B)/\(A++x::B).length<=l.length+1/\∀ y,y∈A++x::B↔y∈l∨y=x:=by
   intro A B e hB hA;subst e;refine ⟨?_,by simp only [List.length_append,List.length_cons];omega,fun y=>?_⟩
   ·unfold StrL at hs ⊢;rw [List.pairwise_append] at hs ⊢;refine ⟨hs.1,List.pairwise_cons.2 ⟨hB,hs.2.1⟩,fun a ha b hb=>?_⟩;rcases List.mem_cons.1 hb with rfl | hb
    ·exact hA a ha
    ·exact hs.2.2 a ha b hb
   ·simp only [List.mem_append,List.mem_cons];constructor
    ·rintro (h | h | h)
     ·exact .inl (.inl h)
     ·exact .inr h
     ·exact .inl (.inr h)
    ·rintro ((h | h) | h)
     ·exact .inl h
     ·exact .inr (.inr h)
     ·exact .inr (.inl h)
  induction n with
  | zero=>
   intro A B hA e hB;apply q77_.L3_step;rw [if_neg (by omega)];exact fin A B e hB fun a ha=>by rw [List.length_eq_zero_iff.1 hA] at ha;cases ha
  | succ n ih=>
   intro A B hA e hB;obtain ⟨A',a,rfl⟩:∃ A' a,A=A'++[a]:=by
    rcases List.eq_nil_or_concat A with h | ⟨A',a,h⟩
    ·subst h;cases hA
    ·exact ⟨A',a,by simpa using h⟩
   have hA':A'.length=n:=by simpa using hA
   have el:l.length=A'.length+1+B.length:=by rw [← e];simp;omega
   have e1:A'++[a]++x::B=A'++a::x::B:=by simp
   have hal:a∈l:=by rw [← e];simp
   rw [e1];apply q77_.L3_step;have ew:IntKind.wrap .i64 (((n+1:Nat):Int)-1)=(n:Int):=by rw [Ac7 (by omega) (by omega)];omega
   rw [if_pos (by omega),ew];refine ⟨x,by rw [Ab5,← hA'];simp,a,by rw [Ab5,← hA'];simp,_,q51_.spec hx (hp a hal),?_⟩;cases hb:befL x a with
   | true=>
    rw [if_pos rfl];have sw:=Bkk (A:=A') (B:=B) (a:=a) (x:=x);rw [hA'] at sw;rw [sw];refine ⟨a,?_,ih A' (a::B) hA' (by rw [← e];simp) fun b hbm=>?_⟩
    ·unfold lset;rw [Ab5,Int.toNat_natCast,List.set_append,if_neg (by omega),List.getElem?_append_right (by omega),hA',Nat.sub_self,show n+1-n=1 by omega];rfl
    ·rcases List.mem_cons.1 hbm with rfl | hbm
     ·exact hb
     ·exact hB b hbm
   | false=>
    rw [if_neg Bool.false_ne_true,← e1];refine fin (A'++[a]) B e hB fun y hy=>?_;have hax:befL a x=true:=by
     cases h2:befL a x with
     | true=>rfl
     | false=>exact absurd (Am6 h2 hb) fun h=>hnx (h ▸ hal)
    rw [List.mem_append,List.mem_singleton] at hy;rcases hy with hy | rfl
    ·refine Aoz _ _ _ ?_ hax;rw [← e] at hs;unfold StrL at hs;exact (List.pairwise_append.1 (List.pairwise_append.1 hs).1).2.2 y hy a (by simp)
    ·exact hax
 have go:∀ (r:List (List Int)) (k:Nat),l.drop k=r->(∀ y∈l.take k,y≠x)->q77_.L1 l x k fun r=>StrL r/\r.length<=l.length+1/\∀ y,y∈r↔y∈l∨y=x:=by
  intro r
  induction r with
  | nil=>
   intro k hd hn;have hge:=Aar hd;rw [List.take_of_length_le hge] at hn;apply q77_.L1_step;rw [if_neg (by omega)];refine ⟨by omega,?_⟩;rw [Ac7 (by simp only [List.length_append,List.length_singleton];omega) (by simp only [List.length_append,List.length_singleton];omega)];have:=bub (fun h=>hn x h rfl) l.length l [] rfl (by simp) (by simp);rw [show (((l++[x]).length:Nat):Int)-1=(l.length:Int) by simp only [List.length_append,List.length_singleton];omega];exact this
  | cons a r ih=>
   intro k hd hn;have hlt:=Aas hd;have hal:a∈l:=List.mem_of_getElem? (Aae hd);have next:a≠x->q77_.L2 l x k fun r=>StrL r/\r.length<=l.length+1/\∀ y,y∈r↔y∈l∨y=x:=fun hne=>by
    apply q77_.L2_step;rw [Aa4 (by omega)];refine ih (k+1) (Aa8 hd) fun y hy=>?_;rw [List.take_add_one,Aae hd,List.mem_append] at hy;rcases hy with hy | hy
    ·exact hn y hy
    ·simp only [Option.toList_some,List.mem_singleton] at hy;rw [hy];exact hne
   apply q77_.L1_step;rw [if_pos (by omega)];refine ⟨a,Aaz hd,_,q51_.spec (hp a hal) hx,?_⟩
   split
   ·rename_i h;exact next fun he=>by rw [he,Am5] at h;cases h
   ·rename_i h;refine ⟨_,q51_.spec hx (hp a hal),?_⟩
    split
    ·rename_i h2;exact next fun he=>by rw [he,Am5] at h2;cases h2
    ·rename_i h2;have e:=Am6 (Bool.eq_false_iff.2 h) (Bool.eq_false_iff.2 h2);refine ⟨hs,by omega,fun y=>⟨.inl,?_⟩⟩;rintro (h | rfl)
     ·exact h
     ·exact e ▸ hal
 obtain ⟨r,h1,h2⟩:=q77_.enter x l (fun r=>StrL r/\r.length<=l.length+1/\∀ y,y∈r↔y∈l∨y=x) (go l 0 rfl (by simp));exact ⟨r,h2,h1⟩
theorem Bkf {x y:Int}:q78_.C x y (decide (x<y)):=by
 obtain ⟨r,h1,h2⟩:=q78_.enter x y (fun r=>r=decide (x<y)) ⟨_,Ao7,by rw [if_neg Bool.false_ne_true]⟩;rw [← h1];exact h2
def srt2:List Int->List Int
 | [x,y]=>if y<x then [y,x] else [x,y]
 | l=>l
theorem Aqv {x y:Int}:srt2 [x,y]=if y<x then [y,x] else [x,y]:=rfl
theorem Axb:∀ {l:List Int},(srt2 l).length=l.length
 | []=>rfl
 | [_]=>rfl
 | [x,y]=>by rw [Aqv];split<;>rfl
 | _::_::_::_=>rfl
theorem Bki {l:List Int} (hl:l.length=1∨l.length=2):q37_.C l (srt2 l):=by
 have ins:q30_.L1 0 l.length 1 l fun r=>r=srt2 l:=by
  match l,hl with
  | [x],_=>
   apply q30_.L1_step;rw [if_neg (by simp)];rfl
  | [x,y],_=>
   have e0:IntKind.wrap .i64 ((1:Int)-1)=0:=by decide
   have e1:IntKind.wrap .i64 ((1:Int)+1)=2:=by decide
   have fin:∀ m:List Int,m=srt2 [x,y]->q30_.L3 0 (([x,y]:List Int).length:Nat) 1 m fun r=>r=srt2 [x,y]:=fun m hm=>by
    apply q30_.L3_step;rw [e1];apply q30_.L1_step;rw [if_neg (by simp)];exact hm
   apply q30_.L1_step;rw [if_pos (by simp)];apply q30_.L2_step;rw [if_pos (by omega),e0];refine ⟨y,rfl,x,rfl,_,Bkf,?_⟩;by_cases h:y<x
   ·rw [if_pos (decide_eq_true h)];refine ⟨x,rfl,?_⟩;apply q30_.L2_step;rw [if_neg (by omega)];exact fin _ (by rw [Aqv,if_pos h];rfl)
   ·rw [if_neg (by simpa using h)];exact fin _ (by rw [Aqv,if_neg h])
 obtain ⟨r1,g1,k1⟩:=q30_.enter 0 (l.length:Int) l (fun r=>r=srt2 l) (by
  have:IntKind.wrap .i64 ((0:Int)+1)=1:=by decide
  rw [this];exact ins)
 subst g1;obtain ⟨s,c,_,_⟩:=q83_.spec (x:=l.length) (by omega);obtain ⟨r2,g2,k2⟩:=q35_.enter 0 (l.length:Int) s l (fun r=>r=srt2 l) (by
  apply q35_.L1_step;rw [Ac7 (by omega) (by omega),if_pos (by omega)]
  exact ⟨_,k1,rfl⟩)
 subst g2;obtain ⟨r3,g3,k3⟩:=q37_.enter l (fun r=>r=srt2 l) (by
  have e:IntKind.wrap .u64 (l.length:Int)=(l.length:Int):=by
   rw [show (IntKind.wrap .u64 (l.length:Int))=(l.length:Int) % 18446744073709551616 from by simp [IntKind.wrap,IntKind.bits,IntKind.signed]];omega
  rw [e]
  exact ⟨_,c,_,k2,rfl⟩)
 rw [← g3];exact k3
def Asd (rs:List api_Row) (i:Nat):api_Row:=(rs[i]?).getD ⟨0,[]⟩
def valT (rs:List api_Row) (t:api_Term):api_Value:=if t.Var=0 then t.Value else vAt (Asd rs (t.Var-1).toNat) t.Attr.toNat
def Avx (n v:Nat) (t:api_Term):Prop:=t.Var=0∨(1<=t.Var/\t.Var<=v/\0<=t.Attr/\t.Attr<n)
def Aj5 (n v:Nat) (a:api_Atom):Prop:=Avx n v a.Left/\Avx n v a.Right
def opK (op c:Int):Bool:=if op=1 then c == 0 else if op=2 then c != 0 else if op=3 then decide (c<0) else if op=4 then decide (c<=0) else false
def satK (rs:List api_Row) (l:List api_Atom):Bool:=l.all fun a=>opK a.Op (cmpV (valT rs a.Left) (valT rs a.Right))
theorem q97_.spec {rs:List api_Row} {t:api_Term} {n:Nat} (hv:∀ r∈rs,r.Values.length=n) (hl:rs.length<=1000) (ht:Avx n rs.length t):q97_.C rs t (valT rs t):=by
 obtain ⟨q,h1,h2⟩:=q97_.enter rs t (fun q=>q=valT rs t) (by
  unfold valT
  split
  ·rfl
  ·rename_i h0;rcases ht with h | ⟨a,b,c,d⟩
   ·exact absurd h h0
   have e1:IntKind.wrap .i64 (t.Var-1)=(((t.Var-1).toNat:Nat):Int):=by rw [Ac7 (by omega) (by omega)];omega
   have e2:t.Attr=((t.Attr.toNat:Nat):Int):=by omega
   have hi:(t.Var-1).toNat<rs.length:=by omega
   have hr:rs[(t.Var-1).toNat]? = some (Asd rs (t.Var-1).toNat):=by unfold Asd;rw [List.getElem?_eq_getElem hi];rfl
   have hm:=hv _ (List.mem_of_getElem? hr);refine ⟨Asd rs (t.Var-1).toNat,by rw [e1,Ab5];exact hr,vAt (Asd rs (t.Var-1).toNat) t.Attr.toNat,?_,rfl⟩;rw [e2,Ab5,Int.toNat_natCast]
   exact Ahr (by omega))
 rw [← h1];exact h2
theorem q59_.spec {rs:List api_Row} {l:List api_Atom} {n:Nat} (hv:∀ r∈rs,r.Values.length=n) (hr:rs.length<=1000) (hl:l.length<=1000) (ha:∀ a∈l,Aj5 n rs.length a):q59_.C rs l (satK rs l):=by
 obtain ⟨q,h1,h2⟩:=q59_.enter rs l (fun q=>q=satK rs l) (by
  refine Am2 (l:=l) (p:=fun a=>opK a.Op (cmpV (valT rs a.Left) (valT rs a.Right))) (L:=fun i=>q59_.L1 rs l i fun q=>q=satK rs l) (φ:=fun b=>b=satK rs l) ?_ ?_ rfl
  ·intro h;apply q59_.L1_step;rw [if_neg (by omega)];exact h
  ·intro k a hk hlt h;have ok:=ha a (List.mem_of_getElem? hk);have two:∀ b:Bool,b=opK a.Op (cmpV (valT rs a.Left) (valT rs a.Right))->q59_.L2 rs l b k fun q=>q=satK rs l:=fun b hb=>by
    apply q59_.L2_step;rw [hb,Aa4 (by omega)];exact h
   apply q59_.L1_step;rw [if_pos (by omega)];refine ⟨a,Abx hk,_,q97_.spec hv hr ok.1,_,q97_.spec hv hr ok.2,_,q85_.spec,?_⟩;unfold opK at two
   split
   ·rename_i e;rw [if_pos e] at two;exact two _ rfl
   ·rename_i e;rw [if_neg e] at two
    split
    ·rename_i e;rw [if_pos e] at two;exact two _ rfl
    ·rename_i e;rw [if_neg e] at two
     split
     ·rename_i e;rw [if_pos e] at two;exact two _ rfl
     ·rename_i e;rw [if_neg e] at two
      split
      ·rename_i e;rw [if_pos e] at two;exact two _ rfl
      ·rename_i e;rw [if_neg e] at two;exact two _ rfl)
 rw [← h1];exact h2
theorem Bi3 {rs:List api_Row} {i:Int} {vs:List api_Value} (hl:rs.length<=1000):q21_.C rs i vs (rs.any fun r=>r.ID == i):=by
 have one:∀ r:api_Row,q79_.C r i vs (r.ID == i):=fun r=>by
  obtain ⟨q,h1,h2⟩:=q79_.enter r i vs (fun q=>q=(r.ID == i)) rfl;rw [← h1];exact h2
 obtain ⟨q,h1,h2⟩:=q25_.enter rs i vs (fun q=>decide (0<=q)=rs.any fun r=>r.ID == i) (by
  have go:∀ (r:List api_Row) (k:Nat),rs.drop k=r->(rs.any fun r=>r.ID == i)=(r.any fun r=>r.ID == i)->q25_.L1 rs i vs k fun q=>decide (0<=q)=rs.any fun r=>r.ID == i:=by
   intro r
   induction r with
   | nil=>
    intro k hd h;have hge:=Aar hd;apply q25_.L1_step;rw [if_neg (by omega),h];rfl
   | cons a r ih=>
    intro k hd h;have hlt:=Aas hd;apply q25_.L1_step;rw [if_pos (by omega)];refine ⟨a,Aaz hd,_,one a,?_⟩;rw [List.any_cons] at h
    split
    ·rename_i e;rw [h,e];simp
    ·rename_i e;rw [Bool.eq_false_iff.2 e,Bool.false_or] at h;rw [Aa4 (by omega)];exact ih (k+1) (Aa8 hd) h
  exact go rs 0 rfl rfl)
 obtain ⟨p,g1,g2⟩:=q21_.enter rs i vs (fun q=>q=rs.any fun r=>r.ID == i) ⟨q,h2,h1⟩;rw [← g1];exact g2
open D
theorem Auv {E:Env} {f:Nat} {p:List D->Option (D×List D)} {q:List D->Ask} {ds:List D} {r:D} {outs:List D} (h1:E.prim f=some p) (h2:p ds=none) (h3:E.hand f=some q) (h4:∃ N,∀ n,N<=n->runAsk (Abb E n) (q ds)=some (r,outs)):Ret E f ds r outs:=by
 obtain ⟨N,hN⟩:=h4;refine ⟨N+1,fun m hm=>?_⟩;obtain ⟨k,rfl⟩:∃ k,m=k+1:=⟨m-1,by omega⟩
 simp only [Abb,h1,h2,h3];exact hN k (by omega)
def rpV (r:api_Row):RowP:=(r.ID,r.Values.map Aa3)
theorem rpD {rs:List api_Row}:(rs.map rpV).map rowD=rs.map Aa1:=by rw [List.map_map];rfl
theorem rpI {rs:List api_Row}:(rs.map rpV).map (·.1)=rs.map api_Row.ID:=by rw [List.map_map];rfl
abbrev Ar2:=List (K3×Bool)
structure GoodV (n:Nat) (m:Ar2) (o:List (List Int)):Prop where
 len:∀ x∈o,x.length=n
 mem:∀ x:List Int,x.length=n->(Ah6 (key3 x) m false=true↔x∈o)
theorem Bee {n:Nat} (hn:n=1∨n=2) {x y:List Int} (hx:x.length=n) (hy:y.length=n) (h:key3 x=key3 y):x=y:=by
 rcases hn with rfl | rfl
 ·match x,y,hx,hy with
  | [a],[b],_,_=>simp only [key3,Prod.mk.injEq,and_true] at h;rw [h]
 ·match x,y,hx,hy with
  | [a,a'],[b,b'],_,_=>simp only [key3,Prod.mk.injEq,and_true] at h;rw [h.1,h.2]
theorem Bhp {n:Nat} (hn:n=1∨n=2) {ids:List Int} {m:Ar2} {o:List (List Int)} (hi:ids.length=n) (hg:GoodV n m o) (ho:o.length+1<=20000) :
  (visF ids m o).1=true/\GoodV n (visF ids m o).2.1 (visF ids m o).2.2/\(visF ids m o).2.2.length<=o.length+1/\∀ x,x∈(visF ids m o).2.2↔x∈o∨x=ids:=by
 unfold visF
 split
 ·rename_i h;have hm:=(hg.mem ids hi).1 h;refine ⟨by simp;omega,hg,by simp,fun x=>⟨.inl,?_⟩⟩;rintro (h | rfl)
  ·exact h
  ·exact hm
 ·refine ⟨by simp;omega,⟨?_,fun x hx=>?_⟩,by simp,fun x=>by simp⟩
  ·intro x hx;rw [List.mem_append,List.mem_singleton] at hx;rcases hx with hx | rfl
   ·exact hg.len x hx
   ·exact hi
  ·have e:Ah6 (key3 x) (mset (key3 ids) true m) false=if key3 ids=key3 x then true else Ah6 (key3 x) m false:=by
    unfold Ah6;rw [Ao6]
    split<;>rfl
   rw [e,List.mem_append,List.mem_singleton]
   split
   ·rename_i h;simp only [true_iff];exact .inr (Bee hn hx hi h.symm)
   ·rename_i h;rw [hg.mem x hx];constructor
    ·exact .inl
    ·rintro (h2 | rfl)
     ·exact h2
     ·exact absurd rfl h
def GoV (n c:Nat) (S:List Int->Prop) (step:D->D->(VRes->Ask)->Ask):Prop:=
 ∀ (m:Ar2) (o:List (List Int)),GoodV n m o->o.length+c<=20000->∃ (m':Ar2) (o':List (List Int)),GoodV n m' o'/\o'.length<=o.length+c/\(∀ x,x∈o'↔x∈o∨S x) /\
  ∃ N,∀ j,N<=j->∀ k,runAsk (Abb env j) (step (.box [Abe m]) (.box [outE o]) k)=runAsk (Abb env j) (k (true,.box [Abe m'],.box [outE o']))
theorem Bb8 {rs:List api_Row} {m:Ar2} {o:List (List Int)} (hl:rs.length=1∨rs.length=2) (ho:o.length<=20000) :
  Ret env visG [.sl (rs.map Aa1),.box [Abe m],.box [outE o]] (.lit (.bool (visF (srt2 (rs.map api_Row.ID)) m o).1)) [.box [Abe (visF (srt2 (rs.map api_Row.ID)) m o).2.1],.box [outE (visF (srt2 (rs.map api_Row.ID)) m o).2.2]]:=by
 obtain ⟨N,hN⟩:=Bki (l:=rs.map api_Row.ID) (by simpa using hl);have hN:∀ j,N<=j->Abb env j vioS [idsD (rs.map api_Row.ID)]=some (.tup [],[idsD (srt2 (rs.map api_Row.ID))]):=fun j hj=>hN j hj;refine Auv (p:=fun _=>none) (q:=Aj1 vioS) (by kernel_rfl) rfl (by kernel_rfl) ⟨N,fun j hj=>?_⟩;rw [← rpD];have e1:=Agd (rs.map rpV);have e2:=Asg m;have e3:=Amt o;have e4:=Ams (srt2 (rs.map api_Row.ID));have hs:=Axb (l:=rs.map api_Row.ID);simp only [Aj1,Abe,outE,e1,e2,e3];rw [if_pos ⟨by simpa using hl,by omega⟩,rpI];simp only [runAsk];rw [hN j hj];simp only [idsD,e4];rw [if_pos (by rw [hs];simp)];rfl
theorem Ayy {rs:List api_Row} {l:List api_Atom} {n w:Nat} (hl:rs.length=n) (hn:n=1∨n=2) (hv:∀ r∈rs,r.Values.length=w) (hll:l.length<=1000) (ha:∀ a∈l,Aj5 w n a) :
  GoV n 1 (fun x=>satK rs l=true/\x=srt2 (rs.map api_Row.ID)) (Ap6 vioQ (l.map Aa6) (rs.map rpV)):=by
 intro m o hg ho;obtain ⟨N,hN⟩:=q59_.spec (rs:=rs) (l:=l) hv (by omega) hll (by rw [hl];exact ha);have hN:∀ j,N<=j->Abb env j vioQ.sat [.sl ((rs.map rpV).map rowD),.sl (l.map Aa6)]=some (.lit (.bool (satK rs l)),[]):=fun j hj=>by rw [rpD];exact hN j hj
 cases hb:satK rs l with
 | false=>
  rw [hb] at hN;refine ⟨m,o,hg,by omega,fun x=>⟨.inl,?_⟩,N,fun j hj k=>?_⟩
  ·rintro (h | ⟨h,_⟩)
   ·exact h
   ·cases h
  ·simp only [Ap6,runAsk];rw [hN j hj]
 | true=>
  rw [hb] at hN;have hi:(srt2 (rs.map api_Row.ID)).length=n:=by rw [Axb];simpa using hl
  obtain ⟨v1,v2,v3,v4⟩:=Bhp hn hi hg ho;obtain ⟨N2,hN2⟩:=Bb8 (rs:=rs) (m:=m) (o:=o) (by omega) (by omega);rw [v1] at hN2;have hN2:∀ j,N2<=j->Abb env j vioQ.vis [.sl ((rs.map rpV).map rowD),.box [Abe m],.box [outE o]]=some (.lit (.bool true),[.box [Abe (visF (srt2 (rs.map api_Row.ID)) m o).2.1],.box [outE (visF (srt2 (rs.map api_Row.ID)) m o).2.2]]):=fun j hj=>by rw [rpD];exact hN2 j hj
  refine ⟨_,_,v2,v3,fun x=>?_,N+N2,fun j hj k=>?_⟩
  ·rw [v4 x];simp
  ·simp only [Ap6,runAsk];rw [hN j (by omega)];simp only [runAsk];rw [hN2 j (by omega)];rfl
theorem Azq {rs:List api_Row} (hl:rs.length<=1000):Ret env vioQ.cn [.sl (rs.map Aa1)] (.own (rs.map Aa1)) []:=
 Auu (k:=2) (b:=32) (by kernel_rfl) (fun _=>rfl) (by omega)
def inV (rs:List api_Row) (r:api_Row):Bool:=rs.any fun q=>q.ID == r.ID
theorem Ap3 {rs:List api_Row} {n c:Nat} {S:api_Row->List Int->Prop} {step:List RowP->D->D->(VRes->Ask)->Ask} (hl:rs.length<=900):∀ (todo:List api_Row),
  (∀ r∈todo,inV rs r=false->GoV n c (S r) (step ((rs++[r]).map rpV)))->GoV n (todo.length*c) (fun x=>∃ r∈todo,inV rs r=false/\S r x) (Aki vioQ step (rs.map rpV) (todo.map rpV))
 | [],_=>fun m o hg ho=>⟨m,o,hg,by omega,fun x=>by simp,0,fun j _ k=>rfl⟩
 | r::todo,h=>by
  intro m o hg ho;have ih:=Ap3 (S:=S) hl todo fun q hq=>h q (by simp [hq]);have e0:(r::todo).length*c=todo.length*c+c:=by rw [List.length_cons,Nat.succ_mul]
  rw [e0] at ho ⊢;obtain ⟨N,hN⟩:=Bi3 (rs:=rs) (i:=r.ID) (vs:=r.Values) (by omega);have hN:∀ j,N<=j->Abb env j vioQ.cf [.sl ((rs.map rpV).map rowD),.fn vioQ.cl [.ref (rowD (rpV r))]]=some (.lit (.bool (inV rs r)),[]):=fun j hj=>by rw [rpD];exact hN j hj
  cases hb:inV rs r with
  | true=>
   rw [hb] at hN;obtain ⟨m',o',g,l',me,N2,hN2⟩:=ih m o hg (by omega);refine ⟨m',o',g,by omega,fun x=>?_,N+N2,fun j hj k=>?_⟩
   ·rw [me x];simp only [List.mem_cons,exists_eq_or_imp,hb,Bool.true_eq_false,false_and,false_or]
   ·simp only [List.map_cons,Aki,runAsk];rw [hN j (by omega)];exact hN2 j (by omega) k
  | false=>
   rw [hb] at hN;obtain ⟨N3,hN3⟩:=Azq (rs:=rs) (by omega);have hN3:∀ j,N3<=j->Abb env j vioQ.cn [.sl ((rs.map rpV).map rowD)]=some (.own ((rs.map rpV).map rowD),[]):=fun j hj=>by rw [rpD];exact hN3 j hj
   obtain ⟨m1,o1,g1,l1,me1,N1,hN1⟩:=h r (by simp) hb m o hg (by omega);obtain ⟨m',o',g,l',me,N2,hN2⟩:=ih m1 o1 g1 (by omega);refine ⟨m',o',g,by omega,fun x=>?_,N+N2+N1+N3,fun j hj k=>?_⟩
   ·rw [me x,me1 x];simp only [List.mem_cons,exists_eq_or_imp,hb,true_and,or_assoc]
   ·simp only [List.map_cons,Aki,runAsk];rw [hN j (by omega)];simp only [runAsk];rw [hN3 j (by omega)];simp only [Agd,if_true];have e1:rs.map rpV++[rpV r]=(rs++[r]).map rpV:=by simp
    rw [e1,hN1 j (by omega)];simp only [if_true];exact hN2 j (by omega) k
def VioS (t:api_Table) (d:api_Denial) (x:List Int):Prop:=
 if d.Vars=1 then ∃ r∈t.Rows,satK [r] d.Atoms=true/\x=[r.ID]
 else ∃ r∈t.Rows,∃ s∈t.Rows,s.ID≠r.ID/\satK [r,s] d.Atoms=true/\x=srt2 [r.ID,s.ID]
theorem q52_.spec {t:api_Table} {d:api_Denial} (hT:TV t) (h10:t.Rows.length<=10) (hd:d.Vars=1∨d.Vars=2) (hll:d.Atoms.length<=20) (ha:∀ a∈d.Atoms,Aj5 t.Attrs.length d.Vars.toNat a) (hk:q82_.C t d 0) :
  ∃ r,q52_.C t d r/\r.2=0/\(∀ x,x∈r.1↔VioS t d x)/\(∀ x∈r.1,x.length<=2)/\r.1.length<=100:=by
 obtain ⟨N,hN⟩:=hk;have hN:∀ j,N<=j->Abb env j vioQ.chk [.agg [.lit (.string t.Name),.sl (t.Attrs.map eS),.sl (t.Rows.map Aa1)],.agg [.lit (.int .i64 d.Vars),.sl (d.Atoms.map Aa6)]]=some (.lit (.int .i64 0),[]):=fun j hj=>hN j hj;have hv:∀ r∈t.Rows,r.Values.length=t.Attrs.length:=fun r hr=>hT.len hr;have g0:∀ n,GoodV n [] []:=fun n=>⟨by simp,fun x hx=>by simp [Ah6,mget]⟩
 have main:∃ n c:Nat,d.Vars=n/\c<=100/\n<=2/\1<=n/\GoV n c (VioS t d) (Ak4 vioQ (d.Atoms.map Aa6) (t.Rows.map rpV) n []):=by
  rcases hd with hd | hd
  ·refine ⟨1,t.Rows.length*1,hd,by omega,by omega,by omega,?_⟩;have:=Ap3 (rs:=[]) (n:=1) (c:=1) (S:=fun r x=>satK [r] d.Atoms=true/\x=srt2 ([r].map api_Row.ID)) (step:=Ak4 vioQ (d.Atoms.map Aa6) (t.Rows.map rpV) 0) (by simp) t.Rows fun r hr _=>Ayy (w:=t.Attrs.length) rfl (.inl rfl) (by simpa using hv r hr) (by omega) (by rw [hd] at ha;exact ha);intro m o hg ho;obtain ⟨m',o',a,b,c,e⟩:=this m o hg ho;refine ⟨m',o',a,b,fun x=>?_,e⟩;rw [c x];unfold VioS;rw [if_pos hd];have:∀ r,inV [] r=false:=fun _=>rfl;simp only [this,true_and];exact Iff.rfl
  ·refine ⟨2,t.Rows.length*(t.Rows.length*1),hd,?_,by omega,by omega,?_⟩
   ·have:=Nat.mul_le_mul h10 h10;rw [Nat.mul_one];exact this
   have:=Ap3 (rs:=[]) (n:=2) (c:=t.Rows.length*1) (S:=fun r x=>∃ s∈t.Rows,inV [r] s=false/\(satK [r,s] d.Atoms=true/\x=srt2 ([r,s].map api_Row.ID))) (step:=Ak4 vioQ (d.Atoms.map Aa6) (t.Rows.map rpV) 1) (by simp) t.Rows fun r hr _=>
    Ap3 (rs:=[r]) (n:=2) (c:=1) (S:=fun s x=>satK [r,s] d.Atoms=true/\x=srt2 ([r,s].map api_Row.ID)) (step:=Ak4 vioQ (d.Atoms.map Aa6) (t.Rows.map rpV) 0) (by simp) t.Rows fun s hs _=>Ayy (w:=t.Attrs.length) rfl (.inr rfl) (by simpa using ⟨hv r hr,hv s hs⟩) (by omega) (by rw [hd] at ha;exact ha)
   intro m o hg ho;obtain ⟨m',o',a,b,c,e⟩:=this m o hg ho;refine ⟨m',o',a,b,fun x=>?_,e⟩;rw [c x];unfold VioS;rw [if_neg (by omega)];have h1:∀ r,inV [] r=false:=fun _=>rfl;have h2:∀ r s,inV [r] s=false↔s.ID≠r.ID:=fun r s=>by
    simp only [inV,List.any_cons,List.any_nil,Bool.or_false,beq_eq_false_iff_ne,ne_eq];exact ⟨fun h e=>h e.symm,fun h e=>h e.symm⟩
   simp only [h1,true_and,h2];exact Iff.rfl
 obtain ⟨n,c,hn,hc,n2,n1,hgo⟩:=main;obtain ⟨m',o',g,lo,me,N1,hN1⟩:=hgo [] [] (g0 n) (by simp;omega);simp only [List.length_nil,Nat.zero_add] at lo;obtain ⟨q,c1,c2,_⟩:=Bla (l:=o') (by omega) fun x hx=>by rw [g.len x hx];omega
 obtain ⟨N2,hN2⟩:=c1;have hN2:∀ j,N2<=j->Abb env j vioQ.srt [outE o',.fn vioQ.cmp []]=some (.tup [],[outE q]):=fun j hj=>hN2 j hj;refine ⟨(q,0),?_,rfl,fun x=>?_,fun x hx=>?_,?_⟩
 ·refine Auv (p:=fun _=>none) (q:=Aj0 vioQ) (by kernel_rfl) rfl (by kernel_rfl) ⟨N+N1+N2,fun j hj=>?_⟩;simp only [Aj0,runAsk];rw [hN j (by omega)];have e1:=Agd (t.Rows.map rpV);rw [rpD] at e1;simp only [if_true,e1];rw [if_pos (by rw [List.length_map];omega)];have e2:d.Vars.toNat=n:=by omega
  rw [e2];have:=hN1 j (by omega) (endA vioQ);rw [show (D.box [Abe []])=.box [.map []] from rfl,show (D.box [outE []])=.box [.own []] from rfl] at this;rw [this];have e3:=Amt q;have hN2:=hN2 j (by omega);simp only [outE] at hN2;simp only [endA,outE,if_true,runAsk];rw [hN2];simp only [e3,runAsk];rfl
 ·rw [show ((q,(0:Int)).1)=q from rfl,c2.mem_iff,me x];simp
 ·have:=g.len x (c2.mem_iff.1 hx);omega
 ·have:=c2.length_eq;simp only;omega
abbrev Afv:api_Value:=⟨0,0,(⟨#[]⟩:ByteArray)⟩
def Azi (n v:Int) (t:api_Term):Prop:=(t.Var=0/\t.Attr=0/\Ab0 t.Value=true)∨(0<t.Var/\t.Var<=v/\0<=t.Attr/\t.Attr<n/\t.Value=Afv)
def Aou (n v:Int) (a:api_Atom):Prop:=1<=a.Op/\a.Op<=4/\Azi n v a.Left/\Azi n v a.Right
theorem q61_.ok {n v:Int} {t:api_Term} (h:Azi n v t):q61_.C n v t true:=by
 obtain ⟨q,h1,h2⟩:=q61_.enter n v t (fun q=>q=true) (by
  rcases h with ⟨a,b,c⟩ | ⟨a,b,c,d,e⟩
  ·rw [if_pos a,if_pos b];exact ⟨_,q93_.spec,c⟩
  ·rw [if_neg (by omega),if_pos a,if_pos b,if_pos c,if_pos d,e]
   simp)
 rw [← h1];exact h2
theorem q91_.ok {n:Int} {d:api_Denial} (hd:d.Vars=1∨d.Vars=2) (hl:d.Atoms.length<=20) (ha:∀ a∈d.Atoms,Aou n d.Vars a):q91_.C n d true:=by
 have one:∀ a∈d.Atoms,∀ l,q81_.C a n d.Vars l false:=fun a hm l=>by
  obtain ⟨x1,x2,x3,x4⟩:=ha a hm;obtain ⟨q,h1,h2⟩:=q81_.enter a n d.Vars l (fun q=>q=false) (by
   rw [if_neg (by omega),if_neg (by omega)]
   exact ⟨_,q61_.ok x3,by rw [if_pos rfl];exact ⟨_,q61_.ok x4,rfl⟩⟩)
  rw [← h1];exact h2
 obtain ⟨q,h1,h2⟩:=q22_.enter d.Atoms n d.Vars d.Atoms (fun q=>q = -1) (by
  refine down (n:=d.Atoms.length) (P:=fun k=>q22_.L1 d.Atoms n d.Vars d.Atoms k fun q=>q = -1) ?_ ?_ 0 (Nat.zero_le _)
  ·apply q22_.L1_step;rw [if_neg (by omega)]
  ·intro k hk h;apply q22_.L1_step;rw [if_pos (by omega)];refine ⟨_,Abx (List.getElem?_eq_getElem hk),_,one _ (List.getElem_mem hk) _,?_⟩;rw [if_neg Bool.false_ne_true,Aa4 (by omega)]
   exact h)
 subst h1;obtain ⟨p,g1,g2⟩:=q19_.enter d.Atoms n d.Vars d.Atoms (fun q=>q=false) ⟨_,h2,rfl⟩;subst g1;obtain ⟨p,g1,g3⟩:=q91_.enter n d (fun q=>q=true) (by
  rw [if_neg (by omega),if_neg (by omega),if_neg (by omega)]
  exact ⟨_,g2,rfl⟩)
 rw [← g1];exact g3
theorem q82_.ok {t:api_Table} {d:api_Denial} (hT:TV t) (hd:d.Vars=1∨d.Vars=2) (hl:d.Atoms.length<=20) (ha:∀ a∈d.Atoms,Aou t.Attrs.length d.Vars a):q82_.C t d 0:=by
 obtain ⟨p,g1,g3⟩:=q82_.enter t d (fun q=>q=0) ⟨_,q94_.spec,by
  rw [if_pos (Aiv.2 hT)]
  exact ⟨_,q91_.ok hd hl ha,by rw [if_pos rfl,if_neg (by omega)]⟩⟩
 rw [← g1];exact g3
theorem q99_.spec {v a:Int}:q99_.C v a ⟨v,a,Afv⟩:=by
 obtain ⟨p,g1,g3⟩:=q99_.enter v a (fun q=>q=⟨v,a,Afv⟩) rfl;rw [← g1];exact g3
def Ahw (op a:Int):api_Atom:=⟨⟨1,a,Afv⟩,op,⟨2,a,Afv⟩⟩
theorem q95_.spec {op a:Int}:q95_.C op a (Ahw op a):=by
 obtain ⟨p,g1,g3⟩:=q95_.enter op a (fun q=>q=Ahw op a) ⟨_,q99_.spec,_,q99_.spec,rfl⟩;rw [← g1];exact g3
def denK (l:List Nat) (a:Nat):api_Denial:=⟨2,l.map (fun (i:Nat)=>Ahw 1 (i:Int))++[Ahw 2 (a:Int)]⟩
theorem Bdq {n s:Nat} (h:s<2^n) (hn:n<=16):(Aaa s).length<=n:=by
 have e:List.range 32=List.range n++(List.range (32-n)).map (n+·):=by
  rw [← List.range_add];congr 1;omega
 have z:((List.range (32-n)).map (n+·)).filter (fun i=>s.testBit i)=[]:=List.filter_eq_nil_iff.2 fun i hi=>by
  obtain ⟨j,_,rfl⟩:=List.mem_map.1 hi;rw [Nat.testBit_lt_two_pow (Nat.lt_of_lt_of_le h (Nat.pow_le_pow_right (by decide) (by omega)))];decide
 unfold Aaa;rw [e,List.filter_append,z,List.append_nil];have:=List.length_filter_le (fun i=>s.testBit i) (List.range n);rw [List.length_range] at this;exact this
theorem q88_.spec {n l r:Nat} {fd:api_FD} (el:fd.Lhs=l) (er:fd.Rhs=r) (hn:n<=16) (hl:l<2^n) (hr:r<2^n):q88_.C n fd ((Aaa (Aci r l)).map (denK (Aaa l)),0):=by
 have p32:2^n<=2^32:=Nat.pow_le_pow_right (by decide) (by omega);have hl32:l<2^32:=by omega
 have hr32:r<2^32:=by omega
 have hd32:Aci r l<2^32:=Nat.lt_of_le_of_lt Ajk hr32;have b1:=Aej (n:=l);have b2:=Aej (n:=Aci r l);obtain ⟨p,g1,g3⟩:=q88_.enter n fd (fun q=>q=((Aaa (Aci r l)).map (denK (Aaa l)),0)) (by
  refine ⟨_,q87_.spec (l:=[fd]) (fun d hd=>by rw [List.mem_singleton.1 hd,el,er];exact ⟨U32.of hl32,U32.of hr32⟩),?_⟩;have e0:fdsE (n:Int) [fd]=0:=by
   unfold fdsE;rw [if_neg (by omega),if_neg (by simp),if_pos];simp only [List.all_cons,List.all_nil,Bool.and_true,inU,Bool.and_eq_true,decide_eq_true_eq,el,er,sN,Int.toNat_natCast];exact ⟨hl,hr⟩
  rw [if_pos e0,el,er,Apn (k:=.u32) (by simpa [top] using hr32) (by simpa [top] using hl32)];refine ⟨_,q69_.spec hd32,?_⟩;generalize hR:Aaa (Aci r l)=R at *;have go:∀ (rs:List Nat) (k:Nat) (acc:List api_Denial),R.drop k=rs->acc.length=k->acc++rs.map (denK (Aaa l))=R.map (denK (Aaa l))->q88_.L1 fd acc (R.map fun (i:Nat)=>(i:Int)) k fun q=>q=(R.map (denK (Aaa l)),0):=by
   intro rs
   induction rs with
   | nil=>
    intro k acc hd ha h;have hge:=Aar hd;apply q88_.L1_step;rw [List.length_map,if_neg (by omega)];rw [← h];simp
   | cons a rs ih=>
    intro k acc hd ha h;have hlt:=Aas hd;apply q88_.L1_step;rw [List.length_map,if_pos (by omega)];refine ⟨(a:Int),by rw [Ab5,List.getElem?_map,Aae hd];rfl,_,by rw [el];exact q69_.spec hl32,?_⟩;have inner:∀ (xs:List Nat) (j:Nat) (at_:List api_Atom),(Aaa l).drop j=xs->at_.length=j->at_++xs.map (fun (i:Nat)=>Ahw 1 (i:Int))=(Aaa l).map (fun (i:Nat)=>Ahw 1 (i:Int))->q88_.L2 fd acc a at_ (R.map fun (i:Nat)=>(i:Int)) k ((Aaa l).map fun (i:Nat)=>(i:Int)) j fun q=>q=(R.map (denK (Aaa l)),0):=by
     intro xs
     induction xs with
     | nil=>
      intro j at_ hj hat h2;have hge:=Aar hj;have hjl:j<=32:=by
       have:=congrArg List.length h2;simp only [List.map_nil,List.append_nil,List.length_map] at this;omega
      apply q88_.L2_step;rw [List.length_map,if_neg (by omega)];refine ⟨_,q95_.spec,by omega,by omega,?_⟩;rw [Aa4 (by omega)];have e:at_=(Aaa l).map fun (i:Nat)=>Ahw 1 (i:Int):=by simpa using h2
      refine ih (k+1) _ (Aa8 hd) (by simp [ha]) ?_;rw [e];simp only [List.append_assoc,List.singleton_append];exact h
     | cons i xs ih2=>
      intro j at_ hj hat h2;have hlt2:=Aas hj;apply q88_.L2_step;rw [List.length_map,if_pos (by omega)];refine ⟨(i:Int),by rw [Ab5,List.getElem?_map,Aae hj];rfl,_,q95_.spec,by omega,?_⟩;rw [Aa4 (by omega)];refine ih2 (j+1) _ (Aa8 hj) (by simp [hat]) ?_;simpa using h2
    exact inner (Aaa l) 0 [] rfl rfl rfl
  exact go R 0 [] rfl rfl rfl)
 rw [← g1];exact g3
theorem Be0 {t:api_Table} {l:List Nat} {a:Nat} {x:List Int}:VioS t (denK l a) x↔∃ r∈t.Rows,∃ s∈t.Rows,s.ID≠r.ID/\((∀ i∈l,vAt r i=vAt s i)/\vAt r a≠vAt s a)/\x=srt2 [r.ID,s.ID]:=by
 unfold VioS;rw [if_neg (by show ¬ (2:Int)=1;decide)];have hk:∀ r s:api_Row,satK [r,s] (denK l a).Atoms=true↔(∀ i∈l,vAt r i=vAt s i)/\vAt r a≠vAt s a:=fun r s=>by
  have v:∀ i:Nat,valT [r,s] ⟨1,(i:Int),Afv⟩=vAt r i/\valT [r,s] ⟨2,(i:Int),Afv⟩=vAt s i:=fun i=>⟨rfl,rfl⟩
  have o1:∀ c,opK 1 c=(c == 0):=fun _=>rfl;have o2:∀ c,opK 2 c=(c != 0):=fun _=>rfl;simp only [satK,denK,List.all_append,List.all_map,List.all_cons,List.all_nil,Bool.and_true,Bool.and_eq_true,List.all_eq_true,Function.comp,Ahw,o1,o2,(v _).1,(v _).2,beq_iff_eq,bne_iff_ne,Aty];simp only [Ne,Aty]
 simp only [hk]
theorem Ays {n:Nat} {l:List Nat} {a:Nat} (hl:∀ i∈l,i<n) (ha:a<n):(∀ b∈(denK l a).Atoms,Aou n (denK l a).Vars b)/\∀ b∈(denK l a).Atoms,Aj5 n (denK l a).Vars.toNat b:=by
 have one:∀ (op:Int) (i:Nat),1<=op->op<=4->i<n->Aou n 2 (Ahw op i)/\Aj5 n 2 (Ahw op i):=fun op i h1 h2 hi=>by
  refine ⟨⟨h1,h2,.inr ⟨by show (0:Int)<1;decide,by show (1:Int)<=2;decide,by show (0:Int)<=(i:Int);omega,by show (i:Int)<n;omega,rfl⟩,.inr ⟨by show (0:Int)<2;decide,by show (2:Int)<=2;decide,by show (0:Int)<=(i:Int);omega,by show (i:Int)<n;omega,rfl⟩⟩,.inr ⟨by show (1:Int)<=1;decide,by show (1:Int)<=2;decide,by show (0:Int)<=(i:Int);omega,by show (i:Int)<n;omega⟩,.inr ⟨by show (1:Int)<=2;decide,by show (2:Int)<=2;decide,by show (0:Int)<=(i:Int);omega,by show (i:Int)<n;omega⟩⟩
 have all:∀ b∈(denK l a).Atoms,Aou n 2 b/\Aj5 n 2 b:=fun b hb=>by
  simp only [denK,List.mem_append,List.mem_map,List.mem_singleton] at hb;rcases hb with ⟨i,hi,rfl⟩ | rfl
  ·exact one 1 i (by decide) (by decide) (hl i hi)
  ·exact one 2 a (by decide) (by decide) ha
 exact ⟨fun b hb=>(all b hb).1,fun b hb=>(all b hb).2⟩
structure DenOK (n:Nat) (d:api_Denial):Prop where
 vars:d.Vars=1∨d.Vars=2
 len:d.Atoms.length<=20
 val:∀ a∈d.Atoms,Aou n d.Vars a
 ok:∀ a∈d.Atoms,Aj5 n d.Vars.toNat a
theorem Bdz {n:Nat} {l:List Nat} {a:Nat} (hl:∀ i∈l,i<n) (hll:l.length<=19) (ha:a<n):DenOK n (denK l a):=
 ⟨.inr rfl,by simp [denK];omega,(Ays hl ha).1,(Ays hl ha).2⟩
theorem q41_.spec {t:api_Table} {ds:List api_Denial} (hT:TV t) (h10:t.Rows.length<=10) (hd:∀ d∈ds,DenOK t.Attrs.length d) (hl:ds.length<=900) :
  ∃ r,q41_.C t ds r/\r.2=true/\StrL r.1/\∀ x,x∈r.1↔∃ d∈ds,VioS t d x:=by
 let P:List (List Int)×Bool->Prop:=fun r=>r.2=true/\StrL r.1/\∀ x,x∈r.1↔∃ d∈ds,VioS t d x
 have go:∀ (R:List api_Denial) (k:Nat) (acc:List (List Int)),ds.drop k=R->StrL acc->acc.length<=k*100->(∀ x∈acc,x.length<=2)->(∀ x,x∈acc↔∃ d∈ds.take k,VioS t d x)->q41_.L1 t ds acc k P:=by
  intro R
  induction R with
  | nil=>
   intro k acc hk hs hal h2 hm;have hge:=Aar hk;apply q41_.L1_step;rw [if_neg (by omega)];rw [List.take_of_length_le hge] at hm;exact ⟨rfl,hs,hm⟩
  | cons d R ih=>
   intro k acc hk hs hal h2 hm;have hlt:=Aas hk;have dk:=hd d (List.mem_of_getElem? (Aae hk));obtain ⟨v,v1,v2,v3,v4,v5⟩:=q52_.spec hT h10 dk.vars dk.len dk.ok (q82_.ok hT dk.vars dk.len dk.val);apply q41_.L1_step;rw [if_pos (by omega)];refine ⟨d,Aaz hk,v,v1,?_⟩;rw [if_pos v2];have inner:∀ (Q:List (List Int)) (j:Nat) (a:List (List Int)),v.1.drop j=Q->j<=v.1.length->StrL a->a.length<=k*100+j->(∀ x∈a,x.length<=2)->(∀ x,x∈a↔(∃ d∈ds.take k,VioS t d x)∨x∈v.1.take j)->q41_.L2 t ds a v k j P:=by
    intro Q
    induction Q with
    | nil=>
     intro j a hj hjl hs2 ha2 h22 hm2;have hge:=Aar hj;apply q41_.L2_step;rw [if_neg (by omega),Aa4 (by omega)];refine ih (k+1) a (Aa8 hk) hs2 (by omega) h22 fun x=>?_;rw [hm2 x,List.take_of_length_le hge,v3 x,List.take_add_one,Aae hk];simp only [Option.toList_some,List.mem_append,List.mem_singleton];constructor
     ·rintro (⟨e,h1,h2⟩ | h)
      ·exact ⟨e,.inl h1,h2⟩
      ·exact ⟨d,.inr rfl,h⟩
     ·rintro ⟨e,h1 | rfl,h2⟩
      ·exact .inl ⟨e,h1,h2⟩
      ·exact .inr h2
    | cons y Q ih2=>
     intro j a hj hjl hs2 ha2 h22 hm2;have hlt2:=Aas hj;have hy:=v4 y (List.mem_of_getElem? (Aae hj));obtain ⟨p,p1,p2,p3,p4⟩:=q77_.spec (l:=a) (x:=y) (by omega) (by omega) (fun z hz=>by have:=h22 z hz;omega) hs2;apply q41_.L2_step;rw [if_pos (by omega)];refine ⟨y,Aaz hj,p,p1,?_⟩;rw [Aa4 (by omega)];refine ih2 (j+1) p (Aa8 hj) (by omega) p2 (by omega) (fun z hz=>?_) fun x=>?_
     ·rcases (p4 z).1 hz with h | rfl
      ·exact h22 z h
      ·exact hy
     ·rw [p4 x,hm2 x,List.take_add_one,Aae hj];simp only [Option.toList_some,List.mem_append,List.mem_singleton,or_assoc]
   exact inner v.1 0 acc rfl (by omega) hs (by omega) h2 fun x=>by rw [hm x];simp
 obtain ⟨r,h1,h2⟩:=q41_.enter t ds P (go ds 0 [] rfl List.Pairwise.nil (by simp) (by simp) fun x=>by simp);exact ⟨r,h2,h1⟩
theorem Avr {ρ:Type} {a b:ρ}:¬ Pr ([]:List ρ) a b:=fun ⟨i,k,_,h,_⟩=>by simp at h
theorem Ast {ρ:Type} {x a b:ρ} {l:List ρ}:Pr (x::l) a b↔(x=a/\b∈l)∨Pr l a b:=by
 constructor
 ·rintro ⟨i,k,hik,ha,hb⟩;obtain ⟨k,rfl⟩:∃ q,k=q+1:=⟨k-1,by omega⟩
  rw [List.getElem?_cons_succ] at hb;cases i with
  | zero=>simp only [List.getElem?_cons_zero,zJ] at ha;exact .inl ⟨ha,List.mem_of_getElem? hb⟩
  | succ i=>rw [List.getElem?_cons_succ] at ha;exact .inr ⟨i,k,by omega,ha,hb⟩
 ·rintro (⟨rfl,hb⟩ | ⟨i,k,hik,ha,hb⟩)
  ·obtain ⟨k,hk,rfl⟩:=List.getElem_of_mem hb;exact ⟨0,k+1,by omega,rfl,by rw [List.getElem?_cons_succ,List.getElem?_eq_getElem hk]⟩
  ·exact ⟨i+1,k+1,by omega,by rwa [List.getElem?_cons_succ],by rwa [List.getElem?_cons_succ]⟩
theorem Atl {ρ:Type} {p:ρ->Bool} {a b:ρ}:∀ {l:List ρ},Pr (l.filter p) a b↔Pr l a b/\p a=true/\p b=true
 | []=>by simp only [List.filter_nil];exact ⟨fun h=>absurd h Avr,fun h=>absurd h.1 Avr⟩
 | x::l=>by
  have ih:=Atl (p:=p) (a:=a) (b:=b) (l:=l);rw [Ast];cases hx:p x with
  | true=>
   rw [List.filter_cons_of_pos hx,Ast,ih,List.mem_filter];constructor
   ·rintro (⟨rfl,h1,h2⟩ | ⟨h1,h2⟩)
    ·exact ⟨.inl ⟨rfl,h1⟩,hx,h2⟩
    ·exact ⟨.inr h1,h2⟩
   ·rintro ⟨⟨rfl,h1⟩ | h1,h2⟩
    ·exact .inl ⟨rfl,h1,h2.2⟩
    ·exact .inr ⟨h1,h2⟩
  | false=>
   rw [List.filter_cons_of_neg (by simp [hx]),ih];constructor
   ·exact fun ⟨h1,h2⟩=>⟨.inr h1,h2⟩
   ·rintro ⟨⟨rfl,h1⟩ | h1,h2⟩
    ·rw [hx] at h2;cases h2.1
    ·exact ⟨h1,h2⟩
theorem Bhr {ρ:Type} {a b:ρ} {l:List ρ} (h:Pr l a b):a∈l/\b∈l:=by
 obtain ⟨i,k,_,ha,hb⟩:=h;exact ⟨List.mem_of_getElem? ha,List.mem_of_getElem? hb⟩
theorem Bks {t:api_Table} (hT:TV t) {a b:api_Row} (h:Pr t.Rows a b):a.ID<b.ID:=by
 obtain ⟨i,k,hik,ha,hb⟩:=h;obtain ⟨hi,rfl⟩:=List.getElem?_eq_some_iff.1 ha;obtain ⟨hk,rfl⟩:=List.getElem?_eq_some_iff.1 hb;exact (List.pairwise_iff_getElem.1 (Arm hT.rows)) i k hi hk hik
theorem Bkt {t:api_Table} {a b:api_Row} (ha:a∈t.Rows) (hb:b∈t.Rows) (hne:b.ID≠a.ID):Pr t.Rows a b∨Pr t.Rows b a:=by
 obtain ⟨i,hi,rfl⟩:=List.getElem_of_mem ha;obtain ⟨k,hk,rfl⟩:=List.getElem_of_mem hb;rcases Nat.lt_trichotomy i k with h | h | h
 ·exact .inl ⟨i,k,h,List.getElem?_eq_getElem hi,List.getElem?_eq_getElem hk⟩
 ·subst h;exact absurd rfl hne
 ·exact .inr ⟨k,i,h,List.getElem?_eq_getElem hk,List.getElem?_eq_getElem hi⟩
theorem andV {v w:api_Value}:(and (v.Kind == w.Kind) (and (v.Num == w.Num) (and (v.Str.toList == w.Str.toList) true)))=decide (v=w):=by
 obtain ⟨k,n,s⟩:=v;obtain ⟨k',n',s'⟩:=w;rw [Bool.eq_iff_iff];simp only [Bool.and_true,Bool.and_eq_true,beq_iff_eq,decide_eq_true_eq,api_Value.mk.injEq,Alb]
def fitC (p:api_Cell) (v:api_Value):Bool:=p.Any || decide (p.Value=v)
theorem q62_.spec {p:api_Cell} {v:api_Value}:q62_.C p v (fitC p v):=by
 obtain ⟨q,h1,h2⟩:=q62_.enter p v (fun q=>q=fitC p v) (by
  unfold fitC;rw [andV]
  split
  ·rename_i h;rw [h,Bool.true_or]
  ·rename_i h;rw [Bool.eq_false_iff.2 h,Bool.false_or])
 rw [← h1];exact h2
structure CndOK (n:Nat) (c:api_CFD) (L:List Nat):Prop where
 n16:n<=16
 lhs:c.Lhs=nI L
 asc:L.Pairwise (·<·)
 lt:∀ i∈L,i<n
 len:L.length<=16
 rhs:0<=c.Rhs/\c.Rhs<n
 out:c.Rhs.toNat ∉ L
 pat:c.Pattern.length=L.length+1
 val:∀ p∈c.Pattern,(p.Any=true/\p.Value=Afv)∨(p.Any=false/\Ab0 p.Value=true)
def patC (c:api_CFD) (k:Nat):api_Cell:=(c.Pattern[k]?).getD ⟨true,Afv⟩
theorem Ax5 {c:api_CFD} {k:Nat} (h:k<c.Pattern.length):c.Pattern[k]? = some (patC c k):=by
 unfold patC;rw [List.getElem?_eq_getElem h];rfl
def Aez (c:api_CFD) (L:List Nat) (r:api_Row):Bool:=(List.range L.length).all fun k=>fitC (patC c k) (vAt r (L.getD k 0))
def Ajq (c:api_CFD) (L:List Nat) (r:api_Row):Bool:=fitC (patC c L.length) (vAt r c.Rhs.toNat)
def Ait (c:api_CFD) (L:List Nat) (a b:api_Row):Bool:=!decide (vAt a c.Rhs.toNat=vAt b c.Rhs.toNat)&&!L.any fun k=>!decide (vAt a k=vAt b k)
section
variable {n:Nat} {c:api_CFD} {L:List Nat} (hc:CndOK n c L)
include hc
theorem q53_.ok:q53_.C n c true:=by
 have one:∀ p∈c.Pattern,q45_.C p false:=fun p hp=>by
  obtain ⟨q,h1,h2⟩:=q45_.enter p (fun q=>q=false) (by
   rcases hc.val p hp with ⟨a,b⟩ | ⟨a,b⟩
   ·rw [if_pos a,b];simp [a]
   ·rw [if_neg (by simp [a]),if_neg (by simp [a])]
    exact ⟨_,q93_.spec,by rw [b];rfl⟩)
  rw [← h1];exact h2
 obtain ⟨q,h1,h2⟩:=q17_.enter c.Pattern (fun q=>q = -1) (by
  have hp:=hc.pat;have hl:=hc.len;refine down (n:=c.Pattern.length) (P:=fun k=>q17_.L1 c.Pattern k fun q=>q = -1) ?_ ?_ 0 (Nat.zero_le _)
  ·apply q17_.L1_step;rw [if_neg (by omega)]
  ·intro k hk h;apply q17_.L1_step;rw [if_pos (by omega)];refine ⟨_,Abx (List.getElem?_eq_getElem hk),_,one _ (List.getElem_mem hk),?_⟩;rw [if_neg Bool.false_ne_true,Aa4 (by omega)]
   exact h)
 subst h1;obtain ⟨p,g1,g2⟩:=q10_.enter c.Pattern (fun q=>q=false) ⟨_,h2,rfl⟩;subst g1;obtain ⟨p,g1,g3⟩:=q53_.enter n c (fun q=>q=true) (by
  have h16:=hc.n16;have hr:=hc.rhs;have hp:=hc.pat;have hl:=hc.len;have el:c.Lhs.length=L.length:=by rw [hc.lhs];simp [nI]
  rw [if_neg (by omega),if_neg (by omega),if_neg (by omega),if_neg (by omega),el,Aa4 (by omega),if_pos (by omega)];have go:∀ (xs:List Nat) (k:Nat) (b:Int),L.drop k=xs->(∀ i∈xs,b<i)->q53_.L1 n c b k fun q=>q=true:=by
   intro xs
   induction xs with
   | nil=>
    intro k b hd _;have hge:=Aar hd;apply q53_.L1_step;rw [el,if_neg (by omega)];exact ⟨_,g2,rfl⟩
   | cons i xs ih=>
    intro k b hd hb;have hlt:=Aas hd;have hi:=hc.lt i (List.mem_of_getElem? (Aae hd));have hbi:=hb i (by simp);apply q53_.L1_step;rw [el,if_pos (by omega)];refine ⟨(i:Int),by rw [hc.lhs];exact Abx (Awz (Aae hd)),?_⟩;rw [if_neg (by omega),if_neg (by omega),if_neg (fun e=>hc.out (by rw [← e,Int.toNat_natCast];exact List.mem_of_getElem? (Aae hd))),Aa4 (by omega)];refine ih (k+1) _ (Aa8 hd) fun j hj=>?_;have ha:=hc.asc;rw [← List.take_append_drop k L,List.pairwise_append,hd] at ha;have:=(List.pairwise_cons.1 ha.2.1).1 j hj;omega
  exact go L 0 (-1) rfl fun i _=>by omega)
 rw [← g1];exact g3
theorem q63_.spec {r:api_Row} (hr:r.Values.length=n):q63_.C c r.Values (Aez c L r):=by
 have hp:=hc.pat;have hl:=hc.len;have el:c.Lhs.length=L.length:=by rw [hc.lhs];simp [nI]
 obtain ⟨q,h1,h2⟩:=q63_.enter c r.Values (fun q=>q=Aez c L r) (by
  refine Am2 (l:=List.range L.length) (p:=fun k=>fitC (patC c k) (vAt r (L.getD k 0))) (L:=fun i=>q63_.L1 c r.Values i fun q=>q=Aez c L r) (φ:=fun b=>b=Aez c L r) ?_ ?_ rfl
  ·intro h;apply q63_.L1_step;rw [el,List.length_range,if_neg (by omega)];exact h
  ·intro k a hk hlt h;rw [List.length_range] at hlt;rw [List.getElem?_range hlt] at hk;cases hk;have hg:L[k]? = some (L.getD k 0):=by rw [List.getD_eq_getElem?_getD,List.getElem?_eq_getElem hlt];rfl
   have hi:=hc.lt _ (List.mem_of_getElem? hg);apply q63_.L1_step;rw [el,if_pos (by omega)];refine ⟨((L.getD k 0:Nat):Int),by rw [hc.lhs];exact Abx (Awz hg),patC c k,Abx (Ax5 (by omega)),vAt r (L.getD k 0),Abx (Ahr (by omega)),_,q62_.spec,?_⟩;rw [Aa4 (by omega)]
   exact h)
 rw [← h1];exact h2
theorem q54_.spec:q54_.C c (patC c L.length):=by
 have hp:=hc.pat;have el:c.Lhs.length=L.length:=by rw [hc.lhs];simp [nI]
 obtain ⟨q,h1,h2⟩:=q54_.enter c (fun q=>q=patC c L.length) ⟨_,by rw [el];exact Abx (Ax5 (by omega)),rfl⟩;rw [← h1];exact h2
theorem Azm {r:api_Row} (hr:r.Values.length=n):lget r.Values c.Rhs=some (vAt r c.Rhs.toNat):=by
 have h:=hc.rhs;have e:c.Rhs=((c.Rhs.toNat:Nat):Int):=by omega
 rw [e,Ab5,Int.toNat_natCast];exact Ahr (by omega)
theorem q64_.spec {a b:api_Row} (ha:a.Values.length=n) (hb:b.Values.length=n):q64_.C c a.Values b.Values (Ait c L a b):=by
 have hl:=hc.len;have el:c.Lhs.length=L.length:=by rw [hc.lhs];simp [nI]
 have one:∀ i:Nat,i<n->q47_.C i a.Values b.Values (!decide (vAt a i=vAt b i)):=fun i hi=>by
  obtain ⟨q,h1,h2⟩:=q47_.enter i a.Values b.Values (fun q=>q=!decide (vAt a i=vAt b i)) ⟨_,Abx (Ahr (by omega)),_,Abx (Ahr (by omega)),by rw [andV]⟩;rw [← h1];exact h2
 obtain ⟨q,h1,h2⟩:=q29_.enter c.Lhs a.Values b.Values (fun q=>decide (0<=q)=L.any fun k=>!decide (vAt a k=vAt b k)) (by
  have go:∀ (xs:List Nat) (k:Nat),L.drop k=xs->(L.any fun k=>!decide (vAt a k=vAt b k))=(xs.any fun k=>!decide (vAt a k=vAt b k))->q29_.L1 c.Lhs a.Values b.Values k fun q=>decide (0<=q)=L.any fun k=>!decide (vAt a k=vAt b k):=by
   intro xs
   induction xs with
   | nil=>
    intro k hd h;have hge:=Aar hd;apply q29_.L1_step;rw [el,if_neg (by omega),h];rfl
   | cons i xs ih=>
    intro k hd h;have hlt:=Aas hd;apply q29_.L1_step;rw [el,if_pos (by omega)];refine ⟨(i:Int),by rw [hc.lhs];exact Abx (Awz (Aae hd)),_,one i (hc.lt i (List.mem_of_getElem? (Aae hd))),?_⟩;rw [List.any_cons] at h
    split
    ·rename_i e;rw [h,e];simp
    ·rename_i e;rw [Bool.eq_false_iff.2 e,Bool.false_or] at h;rw [Aa4 (by omega)];exact ih (k+1) (Aa8 hd) h
  exact go L 0 rfl rfl)
 obtain ⟨p,g1,g2⟩:=q26_.enter c.Lhs a.Values b.Values (fun q=>q=L.any fun k=>!decide (vAt a k=vAt b k)) ⟨q,h2,h1⟩;subst g1;obtain ⟨p,g1,g3⟩:=q64_.enter c a.Values b.Values (fun q=>q=Ait c L a b) ⟨_,Azm hc ha,_,Azm hc hb,by
  rw [andV];unfold Ait
  split
  ·rename_i h;rw [h];rfl
  ·rename_i h
   exact ⟨_,g2,by rw [Bool.eq_false_iff.2 h];rfl⟩⟩
 rw [← g1];exact g3
def VioC (t:api_Table) (c:api_CFD) (L:List Nat) (x:List Int):Prop:=
 (∃ r∈t.Rows,Aez c L r=true/\Ajq c L r=false/\x=[r.ID])∨(∃ r s,Pr t.Rows r s/\Aez c L r=true/\Aez c L s=true/\Ait c L r s=true/\x=[r.ID,s.ID])
end
section
variable {t:api_Table} {c:api_CFD} {L:List Nat} (hT:TV t) (hc:CndOK t.Attrs.length c L)
include hT hc
theorem q39_.spec (h10:t.Rows.length<=10):∃ r,q39_.C t c r/\r.2=0/\(∀ x,x∈r.1↔VioC t c L x)/\r.1.length<=110:=by
 let P:List (List Int)×Int->Prop:=fun r=>r.2=0/\(∀ x,x∈r.1↔VioC t c L x)/\r.1.length<=110
 have hv:∀ r∈t.Rows,r.Values.length=t.Attrs.length:=fun r hr=>hT.len hr;have hMl:(t.Rows.filter (Aez c L)).length<=10:=Nat.le_trans (List.length_filter_le _ _) h10;have hMv:∀ r∈t.Rows.filter (Aez c L),r.Values.length=t.Attrs.length:=fun r hr=>hv r (List.mem_filter.1 hr).1;have l3:∀ M:List api_Row,M.length<=10->(∀ r∈M,r.Values.length=t.Attrs.length)->∀ (φ:List (List Int)×Int->Prop) (R:List api_Row) (k:Nat) (A B:List (List Int)),M.drop k=R->A.length+R.length<=10->B.length+R.length*10<=100 ->
   (∀ A' B':List (List Int),(∀ x,x∈A'↔x∈A∨∃ r∈R,Ajq c L r=false/\x=[r.ID])->(∀ x,x∈B'↔x∈B∨∃ a b,Pr R a b/\Ait c L a b=true/\x=[a.ID,b.ID])->A'.length<=10->B'.length<=100->φ (A'++B',0))->q39_.L3 c M A B k φ:=by
  intro M hM hMv φ R
  induction R with
  | nil=>
   intro k A B hd hA hB h;have hge:=Aar hd;simp only [List.length_nil] at hA hB;apply q39_.L3_step;rw [if_neg (by omega)];refine ⟨by omega,h A B (fun x=>by simp) (fun x=>?_) (by omega) (by omega)⟩;constructor
   ·exact .inl
   ·rintro (h | ⟨a,b,hp,_⟩)
    ·exact h
    ·exact absurd hp Avr
  | cons a R ih=>
   intro k A B hd hA hB h;have hlt:=Aas hd;have ham:=List.mem_of_getElem? (Aae hd);simp only [List.length_cons] at hA hB;have hRl:R.length=M.length-(k+1):=by have:=congrArg List.length (Aa8 hd);rw [List.length_drop] at this;omega
   have l5:∀ A1:List (List Int),A1.length<=A.length+1->(∀ x,x∈A1↔x∈A∨(Ajq c L a=false/\x=[a.ID]))->q39_.L5 c M A1 B k a k φ:=by
    intro A1 hA1 hm;have l4:∀ (Q:List api_Row) (j:Nat) (B1:List (List Int)),M.drop (k+1+j)=Q->k+1+j<=M.length->B1.length+Q.length<=B.length+R.length->(∀ x,(x∈B1∨∃ b∈Q,Ait c L a b=true/\x=[a.ID,b.ID])↔x∈B∨∃ b∈R,Ait c L a b=true/\x=[a.ID,b.ID])->q39_.L4 c M A1 B1 a k (k+1) (M.length-(k+1)) ((M.length-(k+1):Nat):Int) j φ:=by
     intro Q
     induction Q with
     | nil=>
      intro j B1 hj hjl hB1 hx;have hge:=Aar hj;simp only [List.length_nil] at hB1;apply q39_.L4_step;rw [if_neg (by omega),Aa4 (by omega)];refine ih (k+1) A1 B1 (Aa8 hd) (by omega) (by omega) fun A' B' h1 h2 h3 h4=>h A' B' (fun x=>?_) (fun x=>?_) h3 h4
      ·rw [h1 x,hm x];simp only [List.mem_cons,exists_eq_or_imp,or_assoc]
      ·rw [h2 x];have:=hx x;simp only [List.not_mem_nil,false_and,exists_false,or_false] at this;rw [this];simp only [Ast];constructor
       ·rintro ((h | ⟨b,hb,h⟩) | ⟨p,q,h1,h⟩)
        ·exact .inl h
        ·exact .inr ⟨a,b,.inl ⟨rfl,hb⟩,h⟩
        ·exact .inr ⟨p,q,.inr h1,h⟩
       ·rintro (h | ⟨p,q,⟨rfl,hb⟩ | h1,h⟩)
        ·exact .inl (.inl h)
        ·exact .inl (.inr ⟨q,hb,h⟩)
        ·exact .inr ⟨p,q,h1,h⟩
     | cons b Q ih2=>
      intro j B1 hj hjl hB1 hx;have hlt2:=Aas hj;have hbm:=List.mem_of_getElem? (Aae hj);simp only [List.length_cons] at hB1;have nx:M.drop (k+1+(j+1))=Q:=Aa8 hj;apply q39_.L4_step;rw [if_pos (by omega)];refine ⟨b,by rw [show ((k+1:Nat):Int)+(j:Int)=((k+1+j:Nat):Int) by omega];exact Aaz hj,⟨by omega,by omega⟩,by omega,_,q64_.spec hc (hMv a ham) (hMv b hbm),?_⟩
      split
      ·rename_i hp;refine ⟨by omega,?_⟩;apply q39_.L6_step;rw [Aa4 (by omega)];refine ih2 (j+1) _ nx (by omega) (by simp only [List.length_append,List.length_singleton];omega) fun x=>?_;rw [← hx x];simp only [List.mem_append,List.mem_cons,List.not_mem_nil,false_or,exists_eq_or_imp,hp,true_and,or_assoc]
      ·rename_i hp;apply q39_.L6_step;rw [Aa4 (by omega)];refine ih2 (j+1) _ nx (by omega) (by omega) fun x=>?_;rw [← hx x];simp only [List.mem_cons,exists_eq_or_imp,Bool.eq_false_iff.2 hp,Bool.false_eq_true,false_and,false_or]
    apply q39_.L5_step;rw [Aa4 (by omega),Int.toNat_natCast];refine ⟨by omega,⟨by omega,by omega⟩,by omega,?_⟩;rw [List.length_take,List.length_drop,Nat.min_self];exact l4 R 0 B (Aa8 hd) (by omega) (by omega) fun x=>Iff.rfl
   apply q39_.L3_step;rw [if_pos (by omega)];refine ⟨a,Aaz hd,_,q54_.spec hc,_,Azm hc (hMv a ham),_,q62_.spec,?_⟩
   split
   ·rename_i hf;have hf:Ajq c L a=true:=hf;exact l5 A (by omega) fun x=>by simp [hf]
   ·rename_i hf;have hf:Ajq c L a=false:=Bool.eq_false_iff.2 hf;exact ⟨by omega,l5 _ (by simp) fun x=>by simp [hf]⟩
 have fin:q39_.L3 c (t.Rows.filter (Aez c L)) [] [] 0 P:=by
  refine l3 _ hMl hMv P _ 0 [] [] rfl (by simpa using hMl) (by simp only [List.drop_zero,List.length_nil];omega) fun A' B' h1 h2 h3 h4=>⟨rfl,fun x=>?_,by simp only [List.length_append];omega⟩
  rw [List.mem_append,h1 x,h2 x];unfold VioC;simp only [List.not_mem_nil,false_or,List.drop_zero,List.mem_filter,Atl,and_assoc]
 have l1:∀ (R:List api_Row) (k:Nat) (M:List api_Row),t.Rows.drop k=R->M.length<=k->M++R.filter (Aez c L)=t.Rows.filter (Aez c L)->q39_.L1 t c M k P:=by
  intro R
  induction R with
  | nil=>
   intro k M hd hk h;have hge:=Aar hd;apply q39_.L1_step;rw [if_neg (by omega)];simp only [List.filter_nil,List.append_nil] at h;rw [h];exact fin
  | cons r R ih=>
   intro k M hd hk h;have hlt:=Aas hd;have hrm:=List.mem_of_getElem? (Aae hd);apply q39_.L1_step;rw [if_pos (by omega)];refine ⟨r,Aaz hd,_,q63_.spec hc (hv r hrm),?_⟩
   split
   ·rename_i hl;refine ⟨by omega,?_⟩;apply q39_.L2_step;rw [Aa4 (by omega)];rw [List.filter_cons_of_pos hl] at h;exact ih (k+1) _ (Aa8 hd) (by simp;omega) (by simpa using h)
   ·rename_i hl;apply q39_.L2_step;rw [Aa4 (by omega)];rw [List.filter_cons_of_neg hl] at h;exact ih (k+1) _ (Aa8 hd) (by omega) h
 obtain ⟨r,h1,h2⟩:=q39_.enter t c P ⟨_,q94_.spec,by
  rw [if_pos (Aiv.2 hT)]
  exact ⟨_,q53_.ok hc,by rw [if_pos rfl];exact l1 t.Rows 0 [] rfl (by simp) rfl⟩⟩
 exact ⟨r,h2,h1⟩
theorem q55_.spec (h10:t.Rows.length<=10):∃ r,q55_.C t c r/\r.2=0/\(r.1=true↔∀ x,¬ VioC t c L x):=by
 obtain ⟨v,v1,v2,v3,v4⟩:=q39_.spec hT hc h10;obtain ⟨r,h1,h2⟩:=q55_.enter t c (fun r=>r.2=0/\(r.1=true↔∀ x,¬ VioC t c L x)) ⟨v,v1,by
  rw [if_pos v2];refine ⟨v2,?_⟩;simp only [beq_iff_eq,Int.natCast_eq_zero,List.length_eq_zero_iff];constructor
  ·intro h x hx;have:=(v3 x).2 hx;rw [h] at this;cases this
  ·intro h
   exact List.eq_nil_iff_forall_not_mem.2 fun x hx=>h x ((v3 x).1 hx)⟩
 exact ⟨r,h2,h1⟩
end
def cndK (l:List Nat) (a:Nat):api_CFD:=⟨nI l,(a:Int),List.replicate (l.length+1) ⟨true,Afv⟩⟩
theorem q48_.spec {l r:Nat} {fd:api_FD} (el:fd.Lhs=l) (er:fd.Rhs=r) (hl32:l<2^32) (hr32:r<2^32):q48_.C fd ((Aaa (Aci r l)).map (cndK (Aaa l))):=by
 have hd32:Aci r l<2^32:=Nat.lt_of_le_of_lt Ajk hr32;have b1:=Aej (n:=l);have b2:=Aej (n:=Aci r l);obtain ⟨p,g1,g3⟩:=q48_.enter fd (fun q=>q=(Aaa (Aci r l)).map (cndK (Aaa l))) (by
  rw [el,er,Apn (k:=.u32) (by simpa [top] using hr32) (by simpa [top] using hl32)];refine ⟨_,q69_.spec hl32,_,q69_.spec hd32,?_⟩;generalize Aaa (Aci r l)=R at *;generalize Aaa l=X at *;have go:∀ (rs:List Nat) (k:Nat) (acc:List api_CFD),R.drop k=rs->acc.length=k->acc++rs.map (cndK X)=R.map (cndK X)->q48_.L1 (X.map fun (i:Nat)=>(i:Int)) acc (R.map fun (i:Nat)=>(i:Int)) k fun q=>q=R.map (cndK X):=by
   intro rs
   induction rs with
   | nil=>
    intro k acc hd ha h;have hge:=Aar hd;apply q48_.L1_step;rw [List.length_map,if_neg (by omega)];rw [← h];simp
   | cons a rs ih=>
    intro k acc hd ha h;have hlt:=Aas hd;apply q48_.L1_step;rw [List.length_map,if_pos (by omega),List.length_map];refine ⟨(a:Int),by rw [Ab5,List.getElem?_map,Aae hd];rfl,by omega,?_⟩;have inner:∀ j,j<=X.length+1->q48_.L2 (X.map fun (i:Nat)=>(i:Int)) acc a (List.replicate j ⟨true,Afv⟩) (R.map fun (i:Nat)=>(i:Int)) k j fun q=>q=R.map (cndK X):=by
     refine down ?_ ?_
     ·apply q48_.L2_step;rw [List.length_map,Aa4 (by omega),if_neg (by omega)];refine ⟨by omega,?_⟩;rw [Aa4 (by omega)];refine ih (k+1) _ (Aa8 hd) (by simp [ha]) ?_;simp only [List.append_assoc,List.singleton_append];exact h
     ·intro j hj h2;apply q48_.L2_step;rw [List.length_map,Aa4 (by omega),if_pos (by omega)];refine ⟨by rw [List.length_replicate];omega,?_⟩;rw [Aa4 (by omega)];rw [List.replicate_succ'] at h2;exact h2
    exact inner 0 (Nat.zero_le _)
  exact go R 0 [] rfl rfl rfl)
 rw [← g1];exact g3
theorem Bfr {n:Nat} {l:List Nat} {a:Nat} (hn:n<=16) (hs:l.Pairwise (·<·)) (hl:∀ i∈l,i<n) (hll:l.length<=16) (ha:a<n) (hal:a ∉ l):CndOK n (cndK l a) l:=
 ⟨hn,rfl,hs,hl,hll,⟨by show (0:Int)<=(a:Int);omega,by show (a:Int)<n;omega⟩,by show (a:Int).toNat ∉ l;rwa [Int.toNat_natCast],by simp [cndK],fun p hp=>.inl (by simp only [cndK] at hp;rw [List.eq_of_mem_replicate hp];exact ⟨rfl,rfl⟩)⟩
theorem Bdy {t:api_Table} {l:List Nat} {a:Nat} {x:List Int}:VioC t (cndK l a) l x↔∃ r s,Pr t.Rows r s/\((∀ i∈l,vAt r i=vAt s i)/\vAt r a≠vAt s a)/\x=[r.ID,s.ID]:=by
 have pc:∀ k,patC (cndK l a) k=⟨true,Afv⟩:=fun k=>by
  unfold patC cndK;simp only [List.getElem?_replicate]
  split<;>rfl
 have f:∀ v,fitC ⟨true,Afv⟩ v=true:=fun _=>rfl;have e1:∀ r,Aez (cndK l a) l r=true:=fun r=>by simp only [Aez,pc,f,List.all_eq_true];exact fun _ _=>trivial
 have e2:∀ r,Ajq (cndK l a) l r=true:=fun r=>by simp only [Ajq,pc,f]
 have e3:∀ r s,Ait (cndK l a) l r s=true↔(∀ i∈l,vAt r i=vAt s i)/\vAt r a≠vAt s a:=fun r s=>by
  unfold Ait;rw [Bool.and_eq_true,Bool.not_eq_true',Bool.not_eq_true',decide_eq_false_iff_not,List.any_eq_false];simp only [cndK,Int.toNat_natCast,Bool.not_eq_true',decide_eq_false_iff_not,Classical.not_not];exact ⟨fun h=>⟨h.2,h.1⟩,fun h=>⟨h.2,h.1⟩⟩
 unfold VioC;simp only [e1,e2,e3,true_and,Bool.true_eq_false,false_and,and_false,exists_false,false_or]
theorem Bl8 {n:Nat} (hn:n<=16):2^n<=65536/\0<2^n:=⟨Nat.pow_le_pow_right (n:=2) (by omega) hn,Nat.pow_pos (by omega)⟩
theorem Ba2 {n:Nat} (hn:n<=16):Akd n=2^n-1:=by unfold Akd;rw [Nat.min_eq_left (by omega)]
theorem Bc4 {n:Nat} (hn:n<=16):q70_.C n ((2^n-1:Nat):Int):=by
 rw [← Ba2 hn];exact q70_.spec
end Go.Own
