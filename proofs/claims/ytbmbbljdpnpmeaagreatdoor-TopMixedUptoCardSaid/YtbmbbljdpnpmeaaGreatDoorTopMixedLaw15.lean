/- No conditions. -/
import Derived.Test.YtbmbbljdpnpmeaaGreatDoorTopMixedLaw13
import Derived.Test.YtbmbbljdpnpmeaaGreatDoorTopMixedLaw14
import Derived.Test.YtbmbbljdpnpmeaaGreatDoorTopMixedLaw2
set_option linter.all false
namespace Go.Own
def ltS (x y:Int):Bool:=decide (keyS x<keyS y)
theorem Bkt:Go.Sort.SWO ltS where
 irrefl:=fun x=>by unfold ltS;simp
 trans:=fun x y z h1 h2=>by unfold ltS at *;simp only [decide_eq_true_eq] at *;omega
 ntrans:=fun x y z h1 h2=>by unfold ltS at *;simp only [decide_eq_false_iff_not] at *;omega
theorem q36_.spec {x y:Int}:q36_.C x y (cmpI x y):=by
 obtain ⟨f1,g1,k1⟩:=q47_.enter x (fun r=>r=false) (by simp);obtain ⟨f2,g2,k2⟩:=q47_.enter y (fun r=>r=false) (by simp);subst g1 g2;obtain ⟨r,h1,h2⟩:=q36_.enter x y (fun r=>r=cmpI x y) (by
  refine ⟨_,k1,_,k2,?_⟩;rw [if_neg (by decide),if_neg (by decide)];unfold cmpI
  split
  ·rfl
  ·split<;>rfl)
 rw [← h1];exact h2
theorem q23_.spec {x y:Int}:q23_.C x y (cmpI x y):=by
 obtain ⟨f1,g1,k1⟩:=q26_.enter x (fun r=>r=false) (by simp);obtain ⟨f2,g2,k2⟩:=q26_.enter y (fun r=>r=false) (by simp);subst g1 g2;obtain ⟨r,h1,h2⟩:=q23_.enter x y (fun r=>r=cmpI x y) (by
  refine ⟨_,k1,_,k2,?_⟩;rw [if_neg (by decide),if_neg (by decide)];unfold cmpI
  split
  ·rfl
  ·split<;>rfl)
 rw [← h1];exact h2
theorem q70_.two {a b:Int}:q70_.C [a,b] (if a=0 then b else a):=by
 obtain ⟨r,h1,h2⟩:=q70_.enter [a,b] (fun r=>r=if a=0 then b else a) (by
  apply q70_.L1_step;rw [if_pos (by simp)];refine ⟨a,rfl,?_⟩;by_cases ha:a=0
  ·rw [if_pos ha];apply q70_.L1_step;have e:IntKind.wrap .i64 ((0:Int)+1)=1:=by decide
   rw [e,if_pos (by simp)];refine ⟨b,rfl,?_⟩;by_cases hb:b=0
   ·rw [if_pos hb];apply q70_.L1_step;have e:IntKind.wrap .i64 ((1:Int)+1)=2:=by decide
    rw [e,if_neg (by simp),if_pos ha,hb]
   ·rw [if_neg hb,if_pos ha]
  ·rw [if_neg ha,if_neg ha])
 rw [← h1];exact h2
theorem Bj1:Akx U32 ltS q37_.C:=fun x y hx hy=>by
 obtain ⟨r,h1,h2⟩:=q37_.enter x y (fun r=>r<0↔ltS x y=true) (by
  refine ⟨_,q59_.spec hx,_,q59_.spec hy,_,q36_.spec,_,q23_.spec,_,q70_.two,?_⟩;unfold ltS;rw [decide_eq_true_eq,Bkq hx hy];have ex:=hx.eq;have ey:=hy.eq;unfold cmpI;generalize szN (sN x)=s at *;generalize szN (sN y)=t at *;by_cases h1:(s:Int)<t
  ·rw [if_pos h1,if_neg (by decide)];omega
  ·rw [if_neg h1];by_cases h2:(t:Int)<s
   ·rw [if_pos h2,if_neg (by decide)];omega
   ·rw [if_neg h2,if_pos rfl]
    split
    ·omega
    ·split<;>omega)
 exact ⟨r,h2,h1⟩
theorem Anv:∀ (l:List Int) (a b:Int),Aaw (l++[a]++[b])=if a=b then Aaw (l++[a]) else Aaw (l++[a])++[b]
 | [],a,b=>by
  simp only [List.nil_append,List.singleton_append,Aaw]
  split<;>simp_all
 | [c],a,b=>by
  simp only [List.singleton_append,List.cons_append,List.nil_append,Aaw]
  split<;>split<;>simp_all
 | c::d::r,a,b=>by
  have ih:=Anv (d::r) a b;simp only [List.cons_append,Aaw] at ih ⊢;rw [ih]
  split<;>split<;>simp
theorem Ajf {l:List Int} {m:Nat} {a:Int} (h:l[m]? = some a):l.take (m+1)=l.take m++[a]:=by
 rw [List.take_add_one,h];rfl
theorem Aon {l:List Int} {m:Nat} {a b:Int} (ha:l[m]? = some a) (hb:l[m+1]? = some b):Aaw (l.take (m+2))=if a=b then Aaw (l.take (m+1)) else Aaw (l.take (m+1))++[b]:=by
 have e1:l.take (m+2)=l.take m++[a]++[b]:=by rw [Ajf (m:=m+1) hb,Ajf ha]
 rw [e1,Ajf ha,Anv]
namespace q14_
theorem inner {l:List Int} {o:Nat} {φ:List Int×Bool->Prop} (ho:1<=o) (hol:o<l.length) (hl:l.length<4611686018427387904) (h:∀ b,φ (Aaw l,b)) (n:Nat):∀ (s:List Int) (k k2:Nat),l.length-o-k2<=n->1<=k2->o+k2<=l.length->s.length=l.length->k<=o+k2-1->s.take k=Aaw (l.take (o+k2))->(∀ i,o+k2-1<=i->s[i]? = l[i]?)->L2 s k o (l.length-o) k2 φ:=by
 have hend:∀ (s:List Int) (k k2:Nat),o+k2=l.length->s.length=l.length->k<=o+k2-1->s.take k=Aaw (l.take (o+k2))->L2 s k o (l.length-o) k2 φ:=fun s k k2 hk2 hs hk ht=>by
  apply L2_step;refine ⟨by omega,?_⟩;rw [if_neg (by rw [List.length_take,List.length_drop];omega)];refine ⟨by omega,⟨by omega,by omega⟩,by omega,by omega,by omega,by omega,⟨by omega,by omega,by omega⟩,?_⟩;rw [Int.toNat_natCast];have e:s.take k=Aaw l:=by rw [ht,List.take_of_length_le (by omega)]
  rw [e];exact h _
 induction n with
 | zero=>intro s k k2 hn h1 hk2 hs hk ht hd;exact hend s k k2 (by omega) hs hk ht
 | succ n ih=>
  intro s k k2 hn h1 hk2 hs hk ht hd;by_cases hlt:o+k2<l.length
  ·apply L2_step;refine ⟨by omega,?_⟩;rw [if_pos (by rw [List.length_take,List.length_drop];omega)];obtain ⟨b,hb⟩:∃ b,l[o+k2]? = some b:=⟨_,List.getElem?_eq_getElem hlt⟩
   obtain ⟨a,ha⟩:∃ a,l[o+k2-1]? = some a:=⟨_,List.getElem?_eq_getElem (by omega)⟩
   have e1:(o:Int)+(k2:Int)=((o+k2:Nat):Int):=by omega
   have e2:IntKind.wrap .i64 ((k2:Int)-1)=((k2-1:Nat):Int):=wx _ _ (by omega) (by omega);have e3:(o:Int)+((k2-1:Nat):Int)=((o+k2-1:Nat):Int):=by omega
   have e4:IntKind.wrap .i64 ((k2:Int)+1)=((k2+1:Nat):Int):=wx _ _ (by omega) (by omega);have e5:IntKind.wrap .i64 ((k:Int)+1)=((k+1:Nat):Int):=wx _ _ (by omega) (by omega);rw [e1,e2,e3];have hstep:=Aon (l:=l) (m:=o+k2-1) ha (by rw [show o+k2-1+1=o+k2 by omega];exact hb);rw [show o+k2-1+2=o+(k2+1) by omega,show o+k2-1+1=o+k2 by omega] at hstep;refine ⟨b,by rw [Abo,hd _ (by omega)];exact hb,⟨by omega,by omega⟩,by omega,a,by rw [Abo,hd _ (by omega)];exact ha,⟨by omega,by omega⟩,by omega,?_⟩;by_cases hab:b=a
   ·rw [if_pos hab];apply L3_step;rw [e4];rw [if_pos hab.symm] at hstep;exact ih s k (k2+1) (by omega) (by omega) (by omega) hs (by omega) (by rw [ht,hstep]) (fun i hi=>hd i (by omega))
   ·rw [if_neg hab];rw [if_neg (fun h=>hab h.symm)] at hstep;obtain ⟨c,hc⟩:∃ c,s[k]? = some c:=⟨_,List.getElem?_eq_getElem (by omega)⟩
    refine ⟨⟨by omega,by omega⟩,by omega,c,by rw [Abo];exact hc,?_⟩;apply L3_step;rw [e4,e5];have hls:lset s (k:Int) b=s.set k b:=by unfold lset;rw [Int.toNat_natCast]
    rw [hls];refine ih (s.set k b) (k+1) (k2+1) (by omega) (by omega) (by omega) (by rw [List.length_set];exact hs) (by omega) ?_ (fun i hi=>?_)
    ·rw [hstep,← ht,Ajf (a:=b) (by rw [List.getElem?_set_self (by omega)])];congr 1;rw [List.take_set_of_le (Nat.le_refl k)]
    ·rw [List.getElem?_set_ne (by omega)];exact hd i (by omega)
  ·exact hend s k k2 (by omega) hs hk ht
theorem outer {l:List Int} {φ:List Int×Bool->Prop} (hl:l.length<4611686018427387904) (h:∀ b,φ (Aaw l,b)) (n:Nat):∀ i,l.length-i<=n->1<=i->i<=l.length->Aaw (l.take i)=l.take i->L1 l i φ:=by
 induction n with
 | zero=>
  intro i hn h1 hi hc;apply L1_step;rw [if_neg (by omega)];have e:i=l.length:=by omega
  rw [e,List.take_length] at hc;have:=h true
  rwa [hc] at this
 | succ n ih=>
  intro i hn h1 hi hc;by_cases hlt:i<l.length
  ·apply L1_step;rw [if_pos (by omega)];obtain ⟨b,hb⟩:∃ b,l[i]? = some b:=⟨_,List.getElem?_eq_getElem hlt⟩
   obtain ⟨a,ha⟩:∃ a,l[i-1]? = some a:=⟨_,List.getElem?_eq_getElem (by omega)⟩
   have e2:IntKind.wrap .i64 ((i:Int)-1)=((i-1:Nat):Int):=wx _ _ (by omega) (by omega);have e4:IntKind.wrap .i64 ((i:Int)+1)=((i+1:Nat):Int):=wx _ _ (by omega) (by omega);rw [e2,e4];have hstep:=Aon (l:=l) (m:=i-1) ha (by rw [show i-1+1=i by omega];exact hb);rw [show i-1+2=i+1 by omega,show i-1+1=i by omega] at hstep;refine ⟨b,by rw [Abo];exact hb,a,by rw [Abo];exact ha,?_⟩;by_cases hab:b=a
   ·rw [if_pos hab];rw [if_pos hab.symm] at hstep;refine ⟨by omega,⟨by omega,by omega⟩,?_⟩;rw [Int.toNat_natCast];exact inner (o:=i) h1 hlt hl h (l.length-i-1) l i 1 (Nat.le_refl _) (Nat.le_refl _) (by omega) rfl (by omega) (by rw [hstep,hc]) (fun _ _=>rfl)
   ·rw [if_neg hab];rw [if_neg (fun h=>hab h.symm)] at hstep;exact ih (i+1) (by omega) (by omega) (by omega) (by rw [hstep,hc,Ajf hb])
  ·apply L1_step;rw [if_neg (by omega)];have e:i=l.length:=by omega
   rw [e,List.take_length] at hc;have:=h true
   rwa [hc] at this
theorem spec {l:List Int} (hl:l.length<4611686018427387904):∃ b,C l (Aaw l,b):=by
 obtain ⟨r,⟨b,rfl⟩,h2⟩:=enter l (fun r=>∃ b,r=(Aaw l,b)) (by
  split
  ·rename_i h;refine ⟨true,?_⟩
   match l,h with
   | [],_=>rfl
   | [a],_=>rfl
   | _::_::_,h=>simp at h;omega
  ·rename_i h;have:1<=l.length:=by omega
   exact outer hl (fun b=>⟨b,rfl⟩) (l.length-1) 1 (by omega) (by omega) this (by
    obtain ⟨a,r,rfl⟩:∃ a r,l=a::r:=by cases l with
     | nil=>simp at this
     | cons a r=>exact ⟨a,r,rfl⟩
    rfl))
 exact ⟨b,h2⟩
end q14_
theorem Aqb {n:Nat} (hn:n<=16):2^n<=65536/\0<2^n:=⟨Nat.pow_le_pow_right (n:=2) (by omega) hn,Nat.pow_pos (by omega)⟩
def keyR (t:api_Table) (m i:Nat):ByteArray:=Ab5 (pick ((t.Rows[i]?).map (·.Values) |>.getD []) m)
theorem Aeh {t:api_Table} {m i:Nat} (hi:i<t.Rows.length):keyR t m i=Ab5 (pick (t.Rows[i]).Values m):=by
 unfold keyR;rw [List.getElem?_eq_getElem hi];rfl
section
variable {t:api_Table}
theorem Bl3 {m i k:Nat} (ht:TV t) (hm:m<2^32) (hi:i<t.Rows.length) (hk:k<t.Rows.length):pick (t.Rows[i]).Values m=pick (t.Rows[k]).Values m↔∀ a,m.testBit a=true->EqA t i k a:=by
 rw [← Akh ht hm hi hk];unfold Aed;rw [List.getElem?_map,List.getElem?_map,List.getElem?_eq_getElem hi,List.getElem?_eq_getElem hk];simp
theorem Amf {m i:Nat} (ht:TV t) (hn:TNum t) (hi:i<t.Rows.length):∀ v∈pick (t.Rows[i]).Values m,Ab3 v=true/\Ajk v:=fun v hv=>
 ⟨ht.val (List.getElem_mem hi) v (Ah2 v hv),hn _ (List.getElem_mem hi) v (Ah2 v hv)⟩
theorem Aux {m i k:Nat} (ht:TV t) (hi:i<t.Rows.length) (hk:k<t.Rows.length):(pick (t.Rows[i]).Values m).length=(pick (t.Rows[k]).Values m).length:=
 Ayo (by rw [ht.len (List.getElem_mem hi),ht.len (List.getElem_mem hk)])
theorem Aj4 {m i k:Nat} (ht:TV t) (hn:TNum t) (hm:m<2^32) (hi:i<t.Rows.length) (hk:k<t.Rows.length):keyR t m i=keyR t m k↔∀ a,m.testBit a=true->EqA t i k a:=by
 rw [Aeh hi,Aeh hk,Aoz (Aux ht hi hk) (Amf ht hn hi) (Amf ht hn hk),Bl3 ht hm hi hk]
theorem Ap0 {l m:List api_Value}:Ab5 l++Ab5 m=Ab5 (l++m):=by
 rw [← Aoh,Apz];unfold Ab5;rw [Auc];simp [bstr,Acz,List.flatMap_append]
theorem Bkr {p q i k:Nat} (ht:TV t) (hn:TNum t) (hi:i<t.Rows.length) (hk:k<t.Rows.length) (h:keyR t p i++keyR t q i=keyR t p k++keyR t q k):keyR t p i=keyR t p k/\keyR t q i=keyR t q k:=by
 rw [Aeh hi,Aeh hi,Aeh hk,Aeh hk] at *;rw [Ap0,Ap0] at h;have l1:=Aux (m:=p) ht hi hk;have l2:=Aux (m:=q) ht hi hk;have:=(Aoz (by rw [List.length_append,List.length_append,l1,l2]) (fun v hv=>by
  rcases List.mem_append.1 hv with hv | hv
  ·exact Amf ht hn hi v hv
  ·exact Amf ht hn hi v hv) (fun v hv=>by
  rcases List.mem_append.1 hv with hv | hv
  ·exact Amf ht hn hk v hv
  ·exact Amf ht hn hk v hv)).1 h
 obtain ⟨h1,h2⟩:=List.append_inj this l1;rw [h1,h2];exact ⟨rfl,rfl⟩
def grpK (t:api_Table) (l:Nat) (s:ByteArray):List Nat:=(List.range t.Rows.length).filter fun i=>keyR t l i == s
theorem Afq {l i:Nat} {s:ByteArray}:i∈grpK t l s↔i<t.Rows.length/\keyR t l i=s:=by
 unfold grpK;rw [List.mem_filter,List.mem_range,Ad2]
def okG (t:api_Table) (l p q:Nat) (s:ByteArray):Prop:=(dd ((grpK t l s).map (keyR t p))).length*(dd ((grpK t l s).map (keyR t q))).length=(dd ((grpK t l s).map fun i=>keyR t p i++keyR t q i)).length
theorem Bky {l r:Nat} (ht:TV t) (hn:TNum t) (hl:l<2^t.Attrs.length) (hr:r<2^t.Attrs.length):(∀ i,i<t.Rows.length->okG t l (Aa4 r l) (Aa4 (2^t.Attrs.length-1) (l ||| r)) (keyR t l i))↔MvP t l r:=by
 have na:=ht.na;have hp:=Aqb na;have hR:Aa4 r l<2^32:=Nat.lt_of_le_of_lt Adt (by omega);have hS:Aa4 (2^t.Attrs.length-1) (l ||| r)<2^32:=Nat.lt_of_le_of_lt Adt (by omega);have all:∀ s,okG t l (Aa4 r l) (Aa4 (2^t.Attrs.length-1) (l ||| r)) s↔∀ x∈grpK t l s,∀ y∈grpK t l s,∃ z∈grpK t l s,keyR t (Aa4 r l) z=keyR t (Aa4 r l) x/\keyR t (Aa4 (2^t.Attrs.length-1) (l ||| r)) z=keyR t (Aa4 (2^t.Attrs.length-1) (l ||| r)) y:=fun s=>
  Bew fun x hx y hy h=>Bkr ht hn (Afq.1 hx).1 (Afq.1 hy).1 h
 have bitS:∀ a,(Aa4 (2^t.Attrs.length-1) (l ||| r)).testBit a=true↔a<t.Attrs.length/\(l ||| r).testBit a=false:=fun a=>by
  rw [Aag,Nat.testBit_two_pow_sub_one,Bool.and_eq_true,decide_eq_true_eq,Bool.not_eq_true']
 constructor
 ·intro h i k hi hk he;have hki:=(Aj4 ht hn (show l<2^32 by omega) hi hk).2 he;obtain ⟨j,hj,e1,e2⟩:=(all _).1 (h i hi) i (Afq.2 ⟨hi,rfl⟩) k (Afq.2 ⟨hk,hki.symm⟩);obtain ⟨hjl,hjk⟩:=Afq.1 hj;refine ⟨j,hjl,fun a ha=>?_,fun a ha hb=>(Aj4 ht hn hS hjl hk).1 e2 a ((bitS a).2 ⟨ha,hb⟩)⟩;by_cases hla:l.testBit a=true
  ·exact (Aj4 ht hn (show l<2^32 by omega) hjl hi).1 hjk a hla
  ·refine (Aj4 ht hn hR hjl hi).1 e1 a ?_;rw [Nat.testBit_or,Bool.or_eq_true] at ha;rw [Aag,(ha.resolve_left hla)];simpa using hla
 ·intro h i hi;refine (all _).2 fun x hx y hy=>?_;obtain ⟨hxl,hxk⟩:=Afq.1 hx;obtain ⟨hyl,hyk⟩:=Afq.1 hy;obtain ⟨j,hjl,e1,e2⟩:=h x y hxl hyl ((Aj4 ht hn (show l<2^32 by omega) hxl hyl).1 (hxk.trans hyk.symm));refine ⟨j,Afq.2 ⟨hjl,?_⟩,(Aj4 ht hn hR hjl hxl).2 fun a ha=>e1 a ?_,(Aj4 ht hn hS hjl hyl).2 fun a ha=>?_⟩
  ·rw [← hxk];exact (Aj4 ht hn (show l<2^32 by omega) hjl hxl).2 fun a ha=>e1 a (by rw [Nat.testBit_or,ha];rfl)
  ·rw [Aag,Bool.and_eq_true] at ha;rw [Nat.testBit_or,ha.1,Bool.or_true]
  ·obtain ⟨h1,h2⟩:=(bitS a).1 ha;exact e2 a h1 h2
end
theorem Bd6 (d:api_FD) (l:List api_FD) (s:Nat):Af1 (d::l) s=Af1 l (if sN d.Lhs &&& s=sN d.Lhs then s ||| sN d.Rhs else s):=rfl
theorem Aqj {a:Int} {s:Nat} (ha:U32 a) (hs:s<2^32):Aaf .u32 a s=0↔sN a &&& s=sN a:=by
 have e:Aaf .u32 a s=((Aa4 (sN a) s:Nat):Int):=by
  conv=>lhs;rw [ha.eq]
  exact Ac6 ha.top (by simpa [top] using hs)
 rw [e,Aqe,← Ahw];omega
theorem Bmz {a:Int} {s:Nat} (ha:U32 a) (hs:s<2^32):bOr .u32 s a=((s ||| sN a:Nat):Int):=by
 conv=>lhs;rw [ha.eq]
 exact Aee (by simpa [top] using hs) ha.top
namespace q50_
theorem pass {l:List api_FD} (hl:FdOK l) (hn:l.length<1000000000) {b:Int} {φ:Int->Prop}:∀ (r:List api_FD) (k s:Nat),l.drop k=r->s<2^32->(if ((Af1 r s:Nat):Int)=b then φ ((Af1 r s:Nat):Int) else L1 l ((Af1 r s:Nat):Int) φ)->L2 l s b k φ:=by
 intro r
 induction r with
 | nil=>
  intro k s hd hs h;have:=Aay hd;apply L2_step;rw [if_neg (by omega)];exact h
 | cons d r ih=>
  intro k s hd hs h;have hlt:=Aaz hd;have hd':=hl d (List.mem_of_getElem? (Aaq hd));apply L2_step;rw [if_pos (by omega)];refine ⟨d,Abi hd,?_⟩;rw [Bd6] at h;by_cases hz:sN d.Lhs &&& s=sN d.Lhs
  ·rw [if_pos ((Aqj hd'.1 hs).2 hz),Bmz hd'.2 hs];rw [if_pos hz] at h;apply L3_step;rw [Aa3 (by omega)];exact ih (k+1) _ (Aa8 hd) (Nat.or_lt_two_pow hs hd'.2.lt) h
  ·rw [if_neg (fun hh=>hz ((Aqj hd'.1 hs).1 hh))];rw [if_neg hz] at h;apply L3_step;rw [Aa3 (by omega)];exact ih (k+1) s (Aa8 hd) hs h
theorem loop {l:List api_FD} (hl:FdOK l) (hn:l.length<1000000000) {φ:Int->Prop}:∀ (k s:Nat),s<2^32->33<=k+szN s->φ ((Alf l k s:Nat):Int)->L1 l s φ
 | 0,s,hs,hk,h=>by have:=Aew (n:=s);unfold szN at hk;omega
 | k+1,s,hs,hk,h=>by
  have hr:∀ d∈l,sN d.Rhs<2^32:=fun d hd=>(hl d hd).2.lt;apply L1_step;refine pass hl hn l 0 s rfl hs ?_;rw [Alf] at h;by_cases hz:Af1 l s=s
  ·rw [if_pos (by rw [hz]),hz];rw [hz,Awl hz] at h;exact h
  ·rw [if_neg (by omega)];have:=Bn4 (Aru (l:=l)) (Ne.symm hz) (Ani hs hr);exact loop hl hn k _ (Ani hs hr) (by omega) h
theorem spec {l:List api_FD} (hl:FdOK l) (hn:l.length<1000000000) {s:Nat} (hs:s<2^32):C l s ((cloN l s:Nat):Int):=by
 obtain ⟨r,h1,h2⟩:=enter l s (fun r=>r=((cloN l s:Nat):Int)) (loop hl hn 33 s hs (by omega) rfl);rw [← h1];exact h2
end q50_
theorem Arv {n:Nat} (hn:n<=16):IntKind.wrap .u32 (shlw .u32 1 (n:Int)-1)=((2^n-1:Nat):Int):=by
 have hp:=Aqb hn;have e:shlw .u32 1 (n:Int)=((2^n:Nat):Int):=As1 (k:=.u32) (by simp only [top];omega);rw [e,show (((2^n:Nat):Int)-1)=((2^n-1:Nat):Int) by omega];exact Adh (k:=.u32) (by simp only [top];omega)
theorem Bcn {n:Nat} (hn:n<=16):Al8 n=2^n-1:=by unfold Al8;rw [Nat.min_eq_left (by omega)]
theorem Apf {E:Env} {f:Nat} {p:List D->Option (D×List D)} {q:List D->Ask} {ds:List D} {r:D} {outs:List D} (h1:E.prim f=some p) (h2:p ds=none) (h3:E.hand f=some q) (h4:∃ N,∀ n,N<=n->runAsk (Abb E n) (q ds)=some (r,outs)):Ret E f ds r outs:=by
 obtain ⟨N,hN⟩:=h4;refine ⟨N+1,fun m hm=>?_⟩;obtain ⟨k,rfl⟩:∃ k,m=k+1:=⟨m-1,by omega⟩
 simp only [Abb,h1,h2,h3];exact hN k (by omega)
theorem Bhe {v:api_Value}:keyW v=Ab5 [v]:=by
 unfold keyW Al2 Ab5 bstr Acz;simp [b8]
theorem Atb {l:List api_Value}:(Ab5 l).size=(Acz l).length:=by
 show (Ab5 l).data.size=_;unfold Ab5 bstr;rw [List.size_toArray,List.length_map]
theorem Aoy:∀ {l:List api_Value},(∀ v∈l,Ab3 v=true)->(Acz l).length<=403*l.length
 | [],_=>by simp [Acz]
 | a::l,h=>by
  have h1:=Aoy (l:=l) fun v hv=>h v (by simp [hv]);have h2:=Ana (h a (by simp));simp only [Acz,List.flatMap_cons,List.length_append,List.length_cons] at h1 ⊢;omega
theorem Az5 {l:List api_Value} {n:Nat} (h:∀ v∈l,Ab3 v=true):(Ab5 (pick l n)).size<=12896:=by
 rw [Atb];have h1:=Aoy (l:=pick l n) fun v hv=>h v (Ah2 v hv);have h2:=Bhy (l:=l) (n:=n);omega
theorem t32H {a:Nat} (h:a<2^32):a<2^top .u32:=by simpa [top] using h
namespace q72_
theorem spec {t:api_Table} (ht:TV t) {r:api_Row} (hr:r∈t.Rows) {n:Nat} (hn:n<2^t.Attrs.length):C r n (Ab5 (pick r.Values n)):=by
 have hn32:n<2^32:=Nat.lt_of_lt_of_le hn (Nat.pow_le_pow_right (by decide) (by have:=ht.na;omega));have hl:=Aew (n:=n);obtain ⟨q,h1,h2⟩:=enter r n (fun q=>q=Ab5 (pick r.Values n)) (by
  refine ⟨_,q33_.spec hn32,?_⟩;have loop:∀ j,j<=(Aah n).length->L1 r (Ab5 (((Aah n).take j).filterMap fun i=>r.Values[i]?)) ((Aah n).map fun (i:Nat)=>(i:Int)) (j:Int) fun q=>q=Ab5 (pick r.Values n):=by
   refine down ?_ ?_
   ·apply L1_step;rw [List.length_map,if_neg (by omega),List.take_length];rfl
   ·intro j hj h;apply L1_step;rw [List.length_map,if_pos (by omega)];have hget:=List.getElem?_eq_getElem hj;generalize (Aah n)[j]=i at hget;have hi:=(Ab1 hn32).1 (List.mem_of_getElem? hget);have hilt:i<t.Attrs.length:=by
     false_or_by_contra
     rename_i hh;rw [Nat.testBit_lt_two_pow (Nat.lt_of_lt_of_le hn (Nat.pow_le_pow_right (by decide) (by omega)))] at hi;cases hi
    have hrl:=ht.len hr;have hv:=List.getElem?_eq_getElem (l:=r.Values) (i:=i) (by omega);generalize r.Values[i]'(by omega)=v at hv;have hval:=ht.val hr v (List.mem_of_getElem? hv);refine ⟨(i:Int),by rw [Abo,List.getElem?_map,hget];rfl,v,Ad9 hv,(keyW v,0),q71_.spec hval,?_,?_⟩
    ·have a1:=Aoy (l:=((Aah n).take j).filterMap fun i=>r.Values[i]?) (fun v hv=>by
      obtain ⟨i,_,hi⟩:=List.mem_filterMap.1 hv
      exact ht.val hr v (List.mem_of_getElem? hi))
     have a2:(((Aah n).take j).filterMap fun i=>r.Values[i]?).length<=32:=Nat.le_trans (List.length_filterMap_le _ _) (by rw [List.length_take];omega);have a3:=Ana hval;rw [Atb,Aw6];omega
    ·rw [Aa3 (by omega)];have e:(((Aah n).take (j+1)).filterMap fun i=>r.Values[i]?)=(((Aah n).take j).filterMap fun i=>r.Values[i]?)++[v]:=by
      rw [List.take_add_one,hget,List.filterMap_append];simp [hv]
     rw [e] at h;simp only [Bhe,Ap0];exact h
  have:=loop 0 (Nat.zero_le _)
  simpa [Ab5,Acz,bstr] using this)
 rw [← h1];exact h2
end q72_
def row3 (l p q:Nat) (r:api_Row):Key3:=(Ab5 (pick r.Values l),Ab5 (pick r.Values p),Ab5 (pick r.Values q))
theorem Axy {t:api_Table} (ht:TV t) {l p q:Nat} (hl:l<2^t.Attrs.length) (hp:p<2^t.Attrs.length) (hq:q<2^t.Attrs.length) (k:List Key3->Ask):∀ (rs:List api_Row),(∀ r∈rs,r∈t.Rows)->∃ N,∀ m,N<=m->∀ acc,runAsk (Abb env m) (Ah5 Hol.keyF l p q k (rs.map Aa5) acc)=runAsk (Abb env m) (k (acc++rs.map (row3 l p q)))
 | [],_=>⟨0,fun m _ acc=>by simp [Ah5]⟩
 | r::rs,h=>by
  obtain ⟨N,hN⟩:=Axy ht hl hp hq k rs fun r hr=>h r (by simp [hr]);have hr:=h r (by simp);obtain ⟨N1,h1⟩:=q72_.spec ht hr hl;obtain ⟨N2,h2⟩:=q72_.spec ht hr hp;obtain ⟨N3,h3⟩:=q72_.spec ht hr hq;refine ⟨N+N1+N2+N3,fun m hm acc=>?_⟩;have k1:Abb env m Hol.keyF [.agg [.lit (.int .i64 r.ID),.sl (r.Values.map Aaa)],.lit (.int .u32 l)]=some (.lit (.string (Ab5 (pick r.Values l))),[]):=h1 m (by omega);have k2:Abb env m Hol.keyF [.agg [.lit (.int .i64 r.ID),.sl (r.Values.map Aaa)],.lit (.int .u32 p)]=some (.lit (.string (Ab5 (pick r.Values p))),[]):=h2 m (by omega);have k3:Abb env m Hol.keyF [.agg [.lit (.int .i64 r.ID),.sl (r.Values.map Aaa)],.lit (.int .u32 q)]=some (.lit (.string (Ab5 (pick r.Values q))),[]):=h3 m (by omega);have z1:=Az5 (l:=r.Values) (n:=p) fun v hv=>ht.val hr v hv;have z2:=Az5 (l:=r.Values) (n:=q) fun v hv=>ht.val hr v hv;have e:(r::rs).map Aa5=[.lit (.int .i64 r.ID),.sl (r.Values.map Aaa)]::rs.map Aa5:=rfl;rw [e];simp only [Ah5,runAsk,k1,k2,k3];rw [if_pos (by omega),hN m (by omega)];simp [row3]
theorem Bht {t:api_Table} {l p q:Nat}:okH (t.Rows.map (row3 l p q))=true↔∀ i,i<t.Rows.length->okG t l p q (keyR t l i):=by
 have e:t.Rows.map (row3 l p q)=(List.range t.Rows.length).map fun i=>(keyR t l i,keyR t p i,keyR t q i):=by
  apply List.ext_getElem
  ·simp
  ·intro i h1 h2;simp only [List.getElem_map,List.getElem_range];rw [List.length_map] at h1;rw [Aeh h1,Aeh h1,Aeh h1];rfl
 have eg:∀ s,grpH (t.Rows.map (row3 l p q)) s=(grpK t l s).map fun i=>(keyR t l i,keyR t p i,keyR t q i):=fun s=>by
  rw [e];unfold grpH grpK;rw [List.filter_map];exact congrArg _ (List.filter_congr fun i _=>Eq.refl (keyR t l i == s))
 have eo:∀ s,okK (t.Rows.map (row3 l p q)) s↔okG t l p q s:=fun s=>by
  unfold okK set1 set2 set3 okG;rw [eg];simp only [List.map_map];exact Iff.rfl
 rw [Auw];constructor
 ·intro h i hi;rw [Aeh hi];have hm:=h (row3 l p q t.Rows[i]) (List.mem_map.2 ⟨t.Rows[i],List.getElem_mem hi,rfl⟩);simp only [row3] at hm;exact (eo _).1 hm
 ·intro h x hx;obtain ⟨r,hr,rfl⟩:=List.mem_map.1 hx;obtain ⟨i,hi,rfl⟩:=List.getElem_of_mem hr;have:=h i hi;rw [Aeh hi] at this;simp only [row3];exact (eo _).2 this
noncomputable def Am4 (t:api_Table) (m:api_MVD):Bool×Int:=if Ae7 t=0 then At4 t m else (false,Ae7 t)
theorem q67_.spec {t:api_Table} (hn:TNum t) {m:api_MVD} (hl:U32 m.Lhs) (hr:U32 m.Rhs):q67_.C t m (Am4 t m):=by
 obtain ⟨N,hN⟩:=q65_.spec (t:=t);have kv:∀ j,N<=j->Abb env j Hol.valF [.agg [.lit (.string t.Name),.sl (t.Attrs.map eS),.sl (t.Rows.map Aa5)]]=some (.lit (.int .i64 (Ae7 t)),[]):=fun j hj=>hN j hj;by_cases h0:Ae7 t=0
 ·have ht:=Agd.1 h0;have na:=ht.na;have pw:=Aqb na;have p16:2^t.Attrs.length<=2^16:=Nat.pow_le_pow_right (by decide) na;have p0:=Nat.two_pow_pos t.Attrs.length;have eor:=orI hl hr;have hor:sN m.Lhs ||| sN m.Rhs<2^32:=Nat.or_lt_two_pow hl.lt hr.lt
  have eshr:shrw .u32 (bOr .u32 m.Lhs m.Rhs) ((t.Attrs.map eS).length:Int)=(((sN m.Lhs ||| sN m.Rhs) / 2^t.Attrs.length:Nat):Int):=by
   rw [List.length_map,eor];exact Adg (t32H hor)
  by_cases hin:inU t.Attrs.length m.Lhs m.Rhs=true
  ·have hlt:=Bf0.1 hin;have hl2:sN m.Lhs<2^t.Attrs.length:=Nat.lt_of_le_of_lt Nat.left_le_or hlt;have hr2:sN m.Rhs<2^t.Attrs.length:=Nat.lt_of_le_of_lt Nat.right_le_or hlt;have hp2:Aa4 (sN m.Rhs) (sN m.Lhs)<2^t.Attrs.length:=Nat.lt_of_le_of_lt Adt hr2;have hq2:Aa4 (2^t.Attrs.length-1) (sN m.Lhs ||| sN m.Rhs)<2^t.Attrs.length:=Nat.lt_of_le_of_lt Adt (by omega);have e1:Af5 m.Lhs m.Rhs=((Aa4 (sN m.Rhs) (sN m.Lhs):Nat):Int):=by
    unfold Af5
    conv=>lhs;rw [hl.eq,hr.eq]
    exact Ac6 hr.top hl.top
   have e2:Agx ((t.Attrs.map eS).length:Int) m.Lhs m.Rhs=((Aa4 (2^t.Attrs.length-1) (sN m.Lhs ||| sN m.Rhs):Nat):Int):=by
    unfold Agx;rw [List.length_map,eor,Arv na];exact Ac6 (t32H (by omega)) (t32H hor)
   obtain ⟨N2,hN2⟩:=Axy ht hl2 hp2 hq2 (fun L=>.ret (some (resH (okH L) 0,[]))) t.Rows fun r hr=>hr;refine Apf (p:=fun _=>none) (q:=Adm Hol.valF Hol.keyF) (by kernel_rfl) rfl (by kernel_rfl) ⟨N+N2,fun j hj=>?_⟩;simp only [Adm,runAsk,kv j (by omega),h0,if_true];rw [if_pos (by rw [eshr,Nat.div_eq_of_lt hlt];rfl),if_pos (by rw [List.length_map];have:=ht.nr;omega),e1,e2];have:=hN2 j (by omega) [];rw [← hl.eq] at this;rw [this];simp only [runAsk,List.nil_append];have hok:okH (t.Rows.map (row3 (sN m.Lhs) (Aa4 (sN m.Rhs) (sN m.Lhs)) (Aa4 (2^t.Attrs.length-1) (sN m.Lhs ||| sN m.Rhs))))=mvB t (sN m.Lhs) (sN m.Rhs):=by
    rw [Bool.eq_iff_iff,Bht,Auu];exact Bky ht hn hl2 hr2
   rw [hok];unfold Am4 At4;rw [if_pos h0,if_pos hin];rfl
  ·have hge:2^t.Attrs.length<=sN m.Lhs ||| sN m.Rhs:=Nat.le_of_not_lt fun h=>hin (Bf0.2 h)
   refine Apf (p:=fun _=>none) (q:=Adm Hol.valF Hol.keyF) (by kernel_rfl) rfl (by kernel_rfl) ⟨N,fun j hj=>?_⟩;simp only [Adm,runAsk,kv j (by omega),h0,if_true];rw [if_neg (by
    rw [eshr];have:0<(sN m.Lhs ||| sN m.Rhs) / 2^t.Attrs.length:=Nat.div_pos hge p0
    omega)]
   unfold Am4 At4;rw [if_pos h0,if_neg hin];rfl
 ·refine Apf (p:=fun _=>none) (q:=Adm Hol.valF Hol.keyF) (by kernel_rfl) rfl (by kernel_rfl) ⟨N,fun j hj=>?_⟩;simp only [Adm,runAsk,kv j (by omega)];rw [if_neg h0];unfold Am4;rw [if_neg h0];rfl
def errA (n:Int) (l:List api_FD):Int:=if fdsE n l=0 then (if 10<n then 3 else 0) else fdsE n l
theorem Blv {n:Int} {l:List api_FD} (h:errA n l=0):0<=n/\n<=10/\fdsE n l=0:=by
 unfold errA at h
 split at h
 ·rename_i h0;have:=Ayj h0
  split at h
  ·cases h
  ·exact ⟨by omega,by omega,h0⟩
 ·rename_i h0;exact absurd h h0
theorem Bes {n:Nat} (hn:n<=16):q34_.C n ((2^n-1:Nat):Int):=by
 rw [← Bcn hn];exact q34_.spec
def FdIn (n:Nat) (l:List api_FD):Prop:=∀ d∈l,sN d.Lhs<2^n/\sN d.Rhs<2^n
theorem Bj6 {n:Int} {l:List api_FD} (h:fdsE n l=0):FdIn n.toNat l:=by
 unfold fdsE at h
 split at h
 ·cases h
 ·split at h
  ·cases h
  ·split at h
   ·rename_i ha;intro d hd;have:=List.all_eq_true.1 ha d hd;unfold inU at this;simp only [Bool.and_eq_true,decide_eq_true_eq] at this;exact this
   ·cases h
def abcK:List ByteArray:=[⟨#[97]⟩,⟨#[98]⟩,⟨#[99]⟩,⟨#[100]⟩,⟨#[101]⟩,⟨#[102]⟩,⟨#[103]⟩,⟨#[104]⟩,⟨#[105]⟩,⟨#[106]⟩,⟨#[107]⟩,⟨#[108]⟩,⟨#[109]⟩,⟨#[110]⟩,⟨#[111]⟩,⟨#[112]⟩]
theorem Bgf:∀ i:Fin 16,Utf8.encode (IntKind.wrap .i32 (IntKind.wrap .i64 (97+(i.val:Int))))=(abcK[i.val]?).getD ⟨#[]⟩:=by decide +kernel
theorem Be1 {k:Nat} (h:k<16):abcK.take (k+1)=abcK.take k++[(abcK[k]?).getD ⟨#[]⟩]:=by
 have hl:abcK.length=16:=rfl;rw [List.take_add_one,List.getElem?_eq_getElem (by omega)];rfl
theorem Axs {n:Nat} (hn:n<=16):(abcK.take n).length=n:=by
 have hl:abcK.length=16:=rfl;rw [List.length_take];omega
def bitV (b:Bool):api_Value:=⟨1,if b=true then 1 else 0,⟨#[]⟩⟩
def rowV (n m:Nat):List api_Value:=(List.range n).map fun i=>bitV (m.testBit i)
theorem Azs {n m:Nat}:(rowV n m).length=n:=by simp [rowV]
theorem Bfp {n m:Nat}:rowV (n+1) m=rowV n m++[bitV (m.testBit n)]:=by
 unfold rowV;rw [List.range_succ,List.map_append];rfl
theorem Azr {n m a:Nat} (ha:a<n):(rowV n m)[a]? = some (bitV (m.testBit a)):=by
 unfold rowV;rw [List.getElem?_map,List.getElem?_range ha];rfl
def Bij:api_Table:=⟨⟨#[]⟩,[],[]⟩
namespace q60_
theorem cells {n:Nat} {xs:List Int} {ats:List ByteArray} {rows:List api_Row} {m k:Nat} {id:Int} {φ:api_Table->Prop} (hn:n<=16) (hm:m<2^32) (hr:rows.length<=2000) (hk:k<=2000)
  (h:L2 n xs ats (rows++[⟨id,rowV n m⟩]) ((k+1:Nat):Int) φ):∀ (d i:Nat),d+i=n->L3 n xs ats rows (m:Int) id (rowV i m) k i φ
 | 0,i,hd=>by
  have:i=n:=by omega
  subst this;apply L3_step;rw [if_neg (by omega),Aa3 (by omega)];exact ⟨by omega,h⟩
 | d+1,i,hd=>by
  have next:=cells hn hm hr hk h d (i+1) (by omega);rw [Bfp] at next;apply L3_step;rw [if_pos (by omega),Aa3 (by omega)];refine ⟨by omega,by rw [Azs];omega,?_⟩;have e:IntKind.wrap .i64 (bAnd .u32 (shrw .u32 (m:Int) (i:Int)) 1)=if m.testBit i=true then 1 else 0:=by
   rw [Biu (k:=.u32) (by simpa [top] using hm) (by decide)]
   split<;>decide
  rw [e];exact next
end q60_
theorem q51_.spec {n:Nat} {l r:Int} (hl:U32 l) (hr:U32 r):q51_.C n (bOr .u32 l r) (inU n l r):=by
 obtain ⟨q,h1,h2⟩:=q51_.enter n (bOr .u32 l r) (fun q=>q=inU n l r) ⟨by omega,by
  have e0:bOr .u32 l r=((sN l ||| sN r:Nat):Int):=by
   conv=>lhs;rw [hl.eq,hr.eq]
   exact Aee hl.top hr.top
  have hlt:sN l ||| sN r<2^32:=Nat.or_lt_two_pow hl.lt hr.lt
  rw [e0];have e1:IntKind.wrap .u64 ((sN l ||| sN r:Nat):Int)=((sN l ||| sN r:Nat):Int):=by
   unfold IntKind.wrap;simp only [IntKind.bits,IntKind.signed,Bool.false_and,Bool.false_eq_true,if_false];omega
  rw [e1,Adg (k:=.u64) (Nat.lt_trans hlt (by decide))];refine Bool.eq_iff_iff.2 ?_;rw [beq_iff_eq];unfold inU;rw [Bool.and_eq_true,decide_eq_true_iff,decide_eq_true_iff,← Axg,← Ayf]
  omega⟩
 rw [← h1];exact h2
theorem Bfe {b:UInt8} (h:(letB (u8i b)&&true)=true):Aix ⟨#[b]⟩=true:=by
 unfold Aix;have e:(⟨#[b]⟩:ByteArray).toList=[b]:=Ax9 (l:=[b]);rw [e];simp only [Ada,List.length_nil,List.all_nil,Bool.and_true] at h ⊢;rw [h];have:decide ([b]=Aq9)=false:=decide_eq_false (by unfold Aq9;simp);rw [this];rfl
theorem Bbj:∀ (r pre:List ByteArray),(∀ x∈r,Aix x=true)->(pre++r).Nodup->Ail pre r=true
 | [],_,_,_=>rfl
 | a::r,pre,hn,hd=>by
  rw [Ail,hn a (by simp),Bbj r (pre++[a]) (fun x hx=>hn x (by simp [hx])) (by rw [List.append_assoc];exact hd)];have:pre.any (eqS a)=false:=by
   rw [List.any_eq_false];intro x hx;unfold eqS;rw [decide_eq_true_iff];intro he;subst he;rw [List.nodup_append] at hd;exact hd.2.2 x hx x (by simp) rfl
  rw [this];rfl
theorem Bbz {m:Nat}:Ahv (abcK.take m)=true:=by
 unfold Ahv;refine Bbj _ [] (fun x hx=>?_) ?_
 ·have hx:=List.mem_of_mem_take hx;unfold abcK at hx;simp only [List.mem_cons,List.not_mem_nil,or_false] at hx;rcases hx with rfl | rfl | rfl | rfl | rfl | rfl | rfl | rfl | rfl | rfl | rfl | rfl | rfl | rfl | rfl | rfl<;>exact Bfe (by decide)
 ·rw [List.nil_append];have:abcK.Nodup:=by decide +kernel
  exact this.sublist (List.take_sublist _ _)
theorem Bde {n m:Nat}:Aen (rowV n m)=true:=by
 unfold Aen;rw [List.all_eq_true];intro v hv;obtain ⟨i,_,rfl⟩:=List.mem_map.1 hv;unfold Ab3;rw [decide_eq_true_iff];exact .inr (.inl ⟨rfl,Ay2⟩)
theorem Awe {α:Type} {l:List α} {P:α->Prop} {L:Int->Prop} {N:Prop} (hend:(∀ a∈l,P a)->L (l.length:Int)) (hbad:(¬ ∀ a∈l,P a)->N) (hs:∀ (k:Nat) (a:α),l[k]? = some a->k<l.length->(P a->L ((k+1:Nat):Int))->(¬ P a->N)->L (k:Int)):L 0:=by
 have go:∀ (d k:Nat),d+k=l.length->(∀ j a,j<k->l[j]? = some a->P a)->L (k:Int):=by
  intro d
  induction d with
  | zero=>
   intro k hk hp;have hk:k=l.length:=by omega
   subst hk;refine hend fun a ha=>?_;obtain ⟨j,hj⟩:=List.getElem?_of_mem ha;exact hp j a (List.getElem?_eq_some_iff.1 hj).1 hj
  | succ d ih=>
   intro k hk hp;have hlt:k<l.length:=by omega
   have hget:=List.getElem?_eq_getElem hlt;refine hs k _ hget hlt (fun hP=>ih (k+1) (by omega) fun j a hj ha=>?_) (fun hP=>hbad fun h=>hP (h _ (List.getElem_mem hlt)));by_cases hjk:j=k
   ·subst hjk;rw [hget] at ha;cases ha;exact hP
   ·exact hp j a (by omega) ha
 exact go l.length 0 rfl fun j _ hj=>absurd hj (Nat.not_lt_zero j)
def Bbx (t:api_Table) (fds:List api_FD) (mvds:List api_MVD):Prop:=(∀ d∈fds,SatP t (sN d.Lhs) (sN d.Rhs))/\∀ m∈mvds,MvP t (sN m.Lhs) (sN m.Rhs)
open Classical in
noncomputable def Amx (t:api_Table) (fds:List api_FD) (mvds:List api_MVD):Bool:=decide (Bbx t fds mvds)
theorem Aoj {t:api_Table} {fds:List api_FD} {mvds:List api_MVD}:Amx t fds mvds=true↔Bbx t fds mvds:=by unfold Amx;exact @decide_eq_true_iff _ (Classical.propDecidable _)
theorem Avf {t:api_Table} {fds:List api_FD} {mvds:List api_MVD} (h:¬ Bbx t fds mvds):Amx t fds mvds=false:=by
 cases hb:Amx t fds mvds with
 | false=>rfl
 | true=>exact absurd (Aoj.1 hb) h
theorem Bkw {t:api_Table} {l r:Nat} (h:¬ MvP t l r):mvB t l r=false:=by
 cases hb:mvB t l r with
 | false=>rfl
 | true=>exact absurd (Auu.1 hb) h
noncomputable def Atv (t:api_Table) (fds:List api_FD) (mvds:List api_MVD):Bool×Int:=if Ae7 t=0 then (if basE (t.Attrs.length:Int) fds mvds=0 then (Amx t fds mvds,0) else (false,basE (t.Attrs.length:Int) fds mvds)) else (false,Ae7 t)
section
variable {t:api_Table} {fds:List api_FD} {mvds:List api_MVD}
theorem Bgn {n:Int} (h:basE n fds mvds=0):fds.length<=64/\mvds.length<=64:=by
 unfold basE at h
 split at h
 ·rename_i h0
  split at h
  ·cases h
  ·refine ⟨?_,by omega⟩;unfold fdsE at h0
   split at h0
   ·cases h0
   ·split at h0
    ·cases h0
    ·omega
 ·rename_i h0;exact absurd h h0
theorem Bc3 {n:Nat} (h:basE (n:Int) fds mvds=0):(∀ d∈fds,sN d.Lhs<2^n/\sN d.Rhs<2^n)/\∀ m∈mvds,inU n m.Lhs m.Rhs=true:=by
 unfold basE at h
 split at h
 ·rename_i h0;refine ⟨fun d hd=>?_,?_⟩
  ·unfold fdsE at h0
   split at h0
   ·cases h0
   ·split at h0
    ·cases h0
    ·split at h0
     ·rename_i h2;rw [List.all_eq_true] at h2;have:=h2 d hd;unfold inU at this;rw [Int.toNat_natCast,Bool.and_eq_true,decide_eq_true_eq,decide_eq_true_eq] at this;exact this
     ·cases h0
  ·split at h
   ·cases h
   ·split at h
    ·rename_i h2;rw [List.all_eq_true] at h2;intro m hm;have:=h2 m hm
     rwa [Int.toNat_natCast] at this
    ·cases h
 ·rename_i h0;exact absurd h h0
theorem Bcq (ht:TV t) {m:api_MVD} (hin:inU t.Attrs.length m.Lhs m.Rhs=true):Am4 t m=(mvB t (sN m.Lhs) (sN m.Rhs),0):=by
 unfold Am4 At4;rw [if_pos (Agd.2 ht),if_pos hin]
theorem q31_.spec (hn:TNum t) (hf:FdOK fds) (hm:Ahe mvds):q31_.C t fds mvds (Atv t fds mvds):=by
 obtain ⟨r,h1,h2⟩:=q31_.enter t fds mvds (fun r=>r=Atv t fds mvds) (by
  refine ⟨_,q65_.spec,?_⟩;unfold Atv;by_cases h0:Ae7 t=0
  ·rw [if_pos h0,if_pos h0];have ht:=Agd.1 h0;refine ⟨_,q66_.spec hf hm,?_⟩;by_cases hb:basE (t.Attrs.length:Int) fds mvds=0
   ·rw [if_pos hb,if_pos hb];obtain ⟨l1,l2⟩:=Bgn hb;obtain ⟨v1,v2⟩:=Bc3 hb;refine Awe (l:=fds) (P:=fun d=>SatP t (sN d.Lhs) (sN d.Rhs)) (L:=fun k=>q31_.L1 t fds mvds k _) (N:=(false,(0:Int))=(Amx t fds mvds,0)) (fun hall=>?_) (fun hno=>by rw [Avf fun h=>hno h.1]) (fun k d hd hk hy hno=>?_)
    ·apply q31_.L1_step;rw [if_neg (by omega)];refine Awe (l:=mvds) (P:=fun d=>MvP t (sN d.Lhs) (sN d.Rhs)) (L:=fun k=>q31_.L2 t mvds k _) (N:=(false,(0:Int))=(Amx t fds mvds,0)) (fun hall2=>?_) (fun hno=>by rw [Avf fun h=>hno h.2]) (fun k m hm' hk hy hno=>?_)
     ·apply q31_.L2_step;rw [if_neg (by omega),Aoj.2 ⟨hall,hall2⟩]
     ·apply q31_.L2_step;have hmm:=List.mem_of_getElem? hm';rw [if_pos (by omega)];refine ⟨m,Ad9 hm',_,q67_.spec hn (hm m hmm).1 (hm m hmm).2,?_⟩;rw [Bcq ht (v2 m hmm),Aa3 (by omega)];by_cases hM:MvP t (sN m.Lhs) (sN m.Rhs)
      ·rw [if_pos (Auu.2 hM)];exact hy hM
      ·rw [if_neg (by rw [Bkw hM];simp)];exact hno hM
    ·apply q31_.L1_step;have hdm:=List.mem_of_getElem? hd;have hlh:=hf d hdm;have hv:=v1 d hdm;rw [if_pos (by omega)];obtain ⟨q,q1,q2,q3⟩:=q39_.spec (t:=t) (fd:=d) hn hlh.1.eq hlh.2.eq hlh.1.lt hlh.2.lt;refine ⟨d,Ad9 hd,q,q1,?_⟩;have hE:Ahr t (sN d.Lhs) (sN d.Rhs)=0:=by
      unfold Ahr;rw [if_pos h0,if_pos (Axg.2 hv)]
     rw [Aa3 (by omega)];by_cases hS:SatP t (sN d.Lhs) (sN d.Rhs)
     ·rw [if_pos (q3.2 ⟨hE,hS⟩)];exact hy hS
     ·rw [if_neg fun h=>hS (q3.1 h).2];exact hno hS
   ·rw [if_neg hb,if_neg hb]
  ·rw [if_neg h0,if_neg h0])
 rw [← h1];exact h2
end
def lN (R:List Nat):List Int:=R.map fun (m:Nat)=>(m:Int)
theorem Ads {R:List Nat}:(lN R).length=R.length:=by simp [lN]
theorem Bf7 {R:List Nat} {x:Nat}:(x:Int)∈lN R↔x∈R:=by
 unfold lN;rw [List.mem_map];constructor
 ·rintro ⟨a,ha,he⟩;obtain rfl:a=x:=by omega
  exact ha
 ·intro h;exact ⟨x,h,rfl⟩
theorem Am8 {R:List Nat} {i r:Nat} (h:R[i]? = some r):lget (lN R) (i:Int)=some (r:Int):=Ad9 (by simp [lN,h])
def fN (d:api_FD):Nat×Nat:=(sN d.Lhs,sN d.Rhs)
def mN (d:api_MVD):Nat×Nat:=(sN d.Lhs,sN d.Rhs)
theorem Abw {a:Nat} (h:a<2^32):a<2^top .u32:=by simpa [top] using h
theorem Bg6 {a b:Nat} {l:Int} (ha:a<2^32) (hb:b<2^32) (hl:U32 l):bAnd .u32 (bXor .u32 (a:Int) (b:Int)) l=(((a ^^^ b) &&& sN l:Nat):Int):=by
 rw [Axz (Abw ha) (Abw hb)]
 conv=>lhs;rw [hl.eq]
 exact Adq (Abw (Nat.xor_lt_two_pow ha hb)) hl.top
theorem Asf {a b:Nat} {l:Int} (ha:a<2^32) (hb:b<2^32) (hl:U32 l):bAnd .u32 (bXor .u32 (a:Int) (b:Int)) l=0↔Abh (sN l) a b:=by
 rw [Bg6 ha hb hl,← Bc0];omega
theorem mixI {l r:Int} (hl:U32 l) (hr:U32 r) {a b:Nat} (ha:a<2^32) (hb:b<2^32):bOr .u32 (bAnd .u32 (a:Int) (bOr .u32 l r)) (Aaf .u32 (b:Int) (bOr .u32 l r))=((mixR (sN l,sN r) a b:Nat):Int):=by
 have e:bOr .u32 l r=((sN l ||| sN r:Nat):Int):=by
  conv=>lhs;rw [hl.eq,hr.eq]
  exact Aee hl.top hr.top
 have h1:sN l ||| sN r<2^32:=Nat.or_lt_two_pow hl.lt hr.lt
 rw [e,Adq (Abw ha) (Abw h1),Ac6 (Abw hb) (Abw h1),Aee (Abw (Nat.lt_of_le_of_lt Nat.and_le_left ha)) (Abw (Nat.lt_of_le_of_lt Adt hb))];rfl
theorem Akt {R:List Nat} {k a:Nat} (h:R[k]? = some a) {q:Nat}:q∈R.take (k+1)↔q∈R.take k∨q=a:=by
 rw [List.take_add_one,h,List.mem_append];simp
def As8 (d:Nat×Nat) (R:List Nat):Prop:=∀ r s,r∈R->s∈R->Abh d.1 r s->Abh d.2 r s
def Axk (m:Nat×Nat) (R:List Nat):Prop:=∀ r s,r∈R->s∈R->Abh m.1 r s->mixR m r s∈R
structure Grows (m:Nat×Nat) (I:List Nat->Prop):Prop where
 lt:∀ R,I R->∀ r∈R,r<2^32
 len:∀ R,I R->R.length<=64
 add:∀ R r s,I R->r∈R->s∈R->Abh m.1 r s->mixR m r s ∉ R->I (R++[mixR m r s])
def Ado (fds:List (Nat×Nat)) (bs:List Nat) (rest live:Nat) (R:List Nat):Prop:=R.Nodup/\CI fds bs rest live fun u=>u∈R
section
variable {fds mvds:List (Nat×Nat)} {bs:List Nat} {rest live:Nat}
theorem Ado.lt {R:List Nat} (h:Ado fds bs rest live R) {n:Nat} (hr:rest<2^n) {r:Nat} (hm:r∈R):r<2^n:=
 Ace.2 fun i hi=>Ace.1 hr i (h.2.lsub i (h.2.sub r hm i hi))
theorem Ado.len {R:List Nat} (h:Ado fds bs rest live R) (hr:rest<2^6):R.length<=64:=Art h.1 fun _ hx=>h.lt hr hx
theorem Ado.grows (hp:BPart rest bs) (hf:BFin (Ais fds mvds) bs) (hr:rest<2^6) {m:Nat×Nat} (hm:m∈mvds):Grows m (Ado fds bs rest live) where
 lt R h r hr':=Nat.lt_of_lt_of_le (h.lt hr hr') (by decide)
 len R h:=h.len hr
 add R r s h hr' hs ha hn:=by
  refine ⟨?_,?_⟩
  ·rw [List.nodup_append];exact ⟨h.1,by simp,fun x hx y hy=>by simp only [List.mem_singleton] at hy;subst hy;rintro rfl;exact hn hx⟩
  ·have:=h.2.mv hp (hf m (List.mem_append_left _ hm)) hr' hs ha;have e:(fun u=>u∈R++[mixR m r s])=fun u=>u∈R∨u=mixR m r s:=by funext u;simp
   rw [e];exact this
end
open Go.Sort
section
variable {p:Int->Prop} {lt:Int->Int->Bool} (hC:Akx p lt q37_.C) (hS:SWO lt)
include hC hS
theorem q7_.few {l:List Int} (hl:l.length<=12) (hp:∀ x∈l,p x):∃ r,q7_.C l r/\r.Perm l/\r.Pairwise (fun a b=>lt b a=false):=by
 have hsz:SzA l.toArray:=by unfold SzA;simp;omega
 have hpa:AllA p l.toArray:=fun i hi=>by
  have hi':i<l.length:=by simpa using hi
  rw [getElem!_pos l.toArray i hi];exact hp _ (by simp)
 obtain ⟨r,⟨R,rfl,h1,h2⟩,h3⟩:=q7_.enter l (fun r=>∃ R:Array Int,r=R.toList/\PermIn 0 l.length l.toArray R/\SortedIn lt 0 l.length R) (by
  have e:IntKind.wrap .u64 (l.length:Int)=(l.length:Int):=by
   rw [show (IntKind.wrap .u64 (l.length:Int))=(l.length:Int) % 18446744073709551616 from by simp [IntKind.wrap,IntKind.bits,IntKind.signed]];omega
  rw [e];obtain ⟨s,c,_,_⟩:=q48_.spec (x:=l.length) (by omega);refine ⟨_,c,?_⟩;obtain ⟨r,⟨R,rfl,q1,q2⟩,c2⟩:=q11_.enter 0 (l.length:Int) s l (fun r=>∃ R:Array Int,r=R.toList/\PermIn 0 l.length l.toArray R/\SortedIn lt 0 l.length R) (by
   apply q11_.L1_step;rw [wx ((l.length:Int)-0) l.length (by omega) (by omega),if_pos (by omega)];have hi:=insertionSort_holds (lt:=lt) hS l.toArray 0 l.length (Nat.zero_le _) (by simp);have hc:=q4_.spec hC (a:=0) (b:=l.length) (d:=l.toArray) (Nat.zero_le _) (by simp) hpa hsz
   exact ⟨_,hc,_,rfl,hi.1,hi.2⟩)
  exact ⟨_,c2,R,rfl,q1,q2⟩)
 refine ⟨_,h3,?_,?_⟩
 ·have:=h1.2.2;have hz:R.size=l.length:=by simpa using h1.1
  have e1:(R.extract 0 l.length).toList=R.toList:=by
   rw [← hz,Array.extract_size]
  have e2:(l.toArray.extract 0 l.length).toList=l:=by simp
  rwa [e1,e2] at this
 ·have hz:R.size=l.length:=by simpa using h1.1
  rw [List.pairwise_iff_getElem];intro i j hi hj hij;have hi':i<R.size:=by simpa using hi
  have hj':j<R.size:=by simpa using hj
  have:=h2 i j (by omega) hij (by omega);rw [getElem!_pos R i hi',getElem!_pos R j hj'] at this;simpa using this
end
theorem q49_.few {l:List Int} (hl:l.length<=12) (hu:AllU l):q49_.C l (ordL l):=by
 obtain ⟨r,h1,h2⟩:=q49_.enter l (fun r=>r=ordL l) (by
  obtain ⟨s,c,hp,ha⟩:=q7_.few Bj1 Bkt (l:=l) hl hu;have hlen:=hp.length_eq;obtain ⟨b,c2⟩:=q14_.spec (l:=s) (by omega);refine ⟨by omega,s,c,_,c2,?_⟩;have hus:AllU s:=fun x hx=>hu x (hp.mem_iff.1 hx);refine Bl1 hu (Ak4 hus (ha.imp fun h=>?_)) fun y=>by rw [Ahh,hp.mem_iff]
  unfold ltS at h;simp only [decide_eq_false_iff_not] at h
  omega)
 rw [← h1];exact h2
theorem Bi8 {l r:Int} (hl:U32 l) (hr:U32 r) {b:Nat} (hb:b<2^32):splI l r (b:Int)=Abc (sN l,sN r) b:=by
 have e1:bAnd .u32 (b:Int) l=((b &&& sN l:Nat):Int):=by
  conv=>lhs;rw [hl.eq]
  exact Adq (Abw hb) hl.top
 have e2:bAnd .u32 (b:Int) r=((b &&& sN r:Nat):Int):=by
  conv=>lhs;rw [hr.eq]
  exact Adq (Abw hb) hr.top
 have e3:Aaf .u32 (b:Int) r=((Aa4 b (sN r):Nat):Int):=by
  conv=>lhs;rw [hr.eq]
  exact Ac6 (Abw hb) hr.top
 have z:∀ x:Nat,(((x:Nat):Int) == 0)=decide (x=0):=fun x=>by
  rw [Bool.eq_iff_iff,beq_iff_eq,decide_eq_true_eq];omega
 have z2:∀ x:Nat,(((x:Nat):Int) != 0)=decide (x≠0):=fun x=>by
  rw [Bool.eq_iff_iff,bne_iff_ne,decide_eq_true_eq];omega
 unfold splI Abc;rw [e1,e2,e3,z,z2,z2]
theorem Aox {m:Int×Int} (hl:U32 m.1) (hr:U32 m.2):∀ (S P N:List Nat) (ag:Bool),(∀ b∈S,b<2^32)->P.length+S.length+N.length+S.length<=1000000 ->
  Agj m.1 m.2 S.length P.length (lN (P++S++N),ag)=some (lN (P++S.map (fun b=>if Abc (sN m.1,sN m.2) b=true then b &&& sN m.2 else b)++(N++(S.filter (Abc (sN m.1,sN m.2))).map fun b=>Aa4 b (sN m.2))),ag || S.any (Abc (sN m.1,sN m.2)))
 | [],P,N,ag,_,_=>by simp [Agj]
 | b::S,P,N,ag,hS,hlen=>by
  have hb:=hS b (by simp);simp only [List.length_cons] at hlen;have hget:(lN (P++(b::S)++N))[P.length]? = some (b:Int):=by
   unfold lN;rw [List.getElem?_map,List.append_assoc,List.getElem?_append_right (Nat.le_refl _)];simp
  simp only [List.length_cons,Agj,hget,Bi8 hl hr hb];cases hs:Abc (sN m.1,sN m.2) b with
  | false=>
   simp only [Bool.false_eq_true,if_false];have:=Aox hl hr S (P++[b]) N ag (fun c hc=>hS c (by simp [hc])) (by simp;omega);simp only [List.length_append,List.length_singleton,List.append_assoc,List.singleton_append] at this ⊢;rw [this];simp [hs]
  | true=>
   have e2:bAnd .u32 (b:Int) m.2=((b &&& sN m.2:Nat):Int):=by
    conv=>lhs;rw [hr.eq]
    exact Adq (Abw hb) hr.top
   have e3:Aaf .u32 (b:Int) m.2=((Aa4 b (sN m.2):Nat):Int):=by
    conv=>lhs;rw [hr.eq]
    exact Ac6 (Abw hb) hr.top
   simp only [if_true];rw [if_pos (by rw [Ads];simp;omega),e2,e3];have hset:(lN (P++(b::S)++N)).set P.length ((b &&& sN m.2:Nat):Int)++[((Aa4 b (sN m.2):Nat):Int)]=lN ((P++[b &&& sN m.2])++S++(N++[Aa4 b (sN m.2)])):=by
    unfold lN;simp
   rw [hset];have:=Aox hl hr S (P++[b &&& sN m.2]) (N++[Aa4 b (sN m.2)]) true (fun c hc=>hS c (by simp [hc])) (by simp;omega);simp only [List.length_append,List.length_singleton,List.append_assoc,List.singleton_append] at this ⊢;rw [this];simp [hs]
theorem BPart.lt {rest n:Nat} {bs:List Nat} (h:BPart rest bs) (hr:rest<2^n) {b:Nat} (hb:b∈bs):b<2^n:=Ace.2 fun i hi=>Ace.1 hr i ((h.all i).2 ⟨b,hb,hi⟩)
theorem Azo {rest:Nat} (hr:rest<2^32):∀ {mv:List (Int×Int)},(∀ m∈mv,U32 m.1/\U32 m.2)->∀ {L:List Nat} (ag:Bool),BPart rest L ->
  Ajv mv (lN L,ag)=some (lN (Ae5 (mv.map fun m=>(sN m.1,sN m.2)) L),ag || decide (L.length<(Ae5 (mv.map fun m=>(sN m.1,sN m.2)) L).length))
 | [],_,L,ag,_=>by simp [Ajv,Ae5]
 | m::mv,hm,L,ag,hp=>by
  have hlen:=hp.len hr;have h1:=Aox (m:=m) (hm m (by simp)).1 (hm m (by simp)).2 L [] [] ag (fun b hb=>hp.lt hr hb) (by simp;omega);simp only [List.nil_append,List.append_nil,List.length_nil] at h1;have h2:=Azo hr (fun m' h'=>hm m' (List.mem_cons_of_mem _ h')) (L:=Abs (sN m.1,sN m.2) L) (ag || L.any (Abc (sN m.1,sN m.2))) (hp.split _);simp only [Ajv,Ads];rw [if_pos (by omega),h1];show Ajv mv (lN (Abs (sN m.1,sN m.2) L),_)=_;rw [h2];simp only [List.map_cons,Ae5,zJ,Prod.mk.injEq,true_and];have h3:=Ako (m:=(sN m.1,sN m.2)) (bs:=L);have h4:=Ale (mv:=mv.map fun m=>(sN m.1,sN m.2)) (bs:=Abs (sN m.1,sN m.2) L);rw [Bool.or_assoc];congr 1;rw [Bool.eq_iff_iff,Bool.or_eq_true,decide_eq_true_eq,decide_eq_true_eq];constructor
  ·rintro (h | h)
   ·obtain ⟨b,hb,hs⟩:=List.any_eq_true.1 h;have:0<(L.filter (Abc (sN m.1,sN m.2))).length:=List.length_pos_of_mem (List.mem_filter.2 ⟨hb,hs⟩);omega
   ·omega
  ·intro h;by_cases h0:(L.filter (Abc (sN m.1,sN m.2))).length=0
   ·right;omega
   ·left;obtain ⟨b,hb⟩:=List.exists_mem_of_length_pos (Nat.pos_of_ne_zero h0);obtain ⟨hb,hs⟩:=List.mem_filter.1 hb;exact List.any_eq_true.2 ⟨b,hb,hs⟩
theorem Ats {rest:Nat} (hr:rest<2^32) {mv:List (Int×Int)} (hm:∀ m∈mv,U32 m.1/\U32 m.2):∀ {k:Nat} {L:List Nat},BPart rest L->32<k+L.length->Ahz mv k (lN L)=some (lN (Afb (mv.map fun m=>(sN m.1,sN m.2)) k L))
 | 0,L,hp,hk=>absurd (hp.len hr) (by omega)
 | k+1,L,hp,hk=>by
  have h1:=Ale (mv:=mv.map fun m=>(sN m.1,sN m.2)) (bs:=L);simp only [Ahz,Azo hr hm false hp,Afb,Bool.false_or,decide_eq_true_eq];by_cases he:(Ae5 (mv.map fun m=>(sN m.1,sN m.2)) L).length=L.length
  ·rw [if_pos he,if_neg (by omega)]
  ·rw [if_neg he,if_pos (by omega)];exact Ats hr hm hp.pass (by omega)
theorem Bdn {n x:Nat} (hn:n<=16) (hx:x<2^32):Ai5 (n:Int) (x:Int)=lN (Akp (Aa4 (2^n-1) x)):=by
 have h1:=Arv hn;have h2:2^n-1<2^32:=Nat.lt_of_lt_of_le (Nat.sub_lt (Nat.pow_pos (by omega)) (by omega)) (Nat.pow_le_pow_right (by omega) (by omega));have e:Ajw (n:Int) (x:Int)=((Aa4 (2^n-1) x:Nat):Int):=by
  unfold Ajw;rw [h1];exact Ac6 (Abw h2) (Abw hx)
 unfold Ai5 Akp;rw [e];by_cases h0:Aa4 (2^n-1) x=0
 ·rw [if_pos h0,if_neg (by simp [h0])];rfl
 ·rw [if_neg h0,if_pos (by simp;omega)];rfl
theorem Bi1 {E:Env} {f:Nat} {p:List D->Option (D×List D)} {q:List D->Ask} {ds:List D} {r:D} {outs:List D} (h1:E.prim f=some p) (h2:p ds=none) (h3:E.hand f=some q) (h4:∃ N,∀ n,N<=n->runAsk (Abb E n) (q ds)=some (r,outs)):Ret E f ds r outs:=by
 obtain ⟨N,hN⟩:=h4;refine ⟨N+1,fun m hm=>?_⟩;obtain ⟨k,rfl⟩:∃ k,m=k+1:=⟨m-1,by omega⟩
 simp only [Abb,h1,h2,h3];exact hN k (by omega)
def blkB (mv:List (Nat×Nat)) (rest:Nat):List Nat:=Afb mv 40 (Akp rest)
theorem q61_.spec {n x:Nat} {mv:List api_MVD} (hn6:n<=6) (hx:x<2^32) (hm:Ahe mv) (hlen:mv.length<1000000):q61_.C n mv x (ordL (lN (blkB (mv.map mN) (Aa4 (2^n-1) x)))):=by
 have hn:n<=16:=by omega
 have h2:2^n-1<2^32:=Nat.lt_of_lt_of_le (Nat.sub_lt (Nat.pow_pos (by omega)) (by omega)) (Nat.pow_le_pow_right (by omega) (by omega));have hrest6:Aa4 (2^n-1) x<2^6:=by
  have h6:2^n<=2^6:=Nat.pow_le_pow_right (by decide) hn6;have h0:=Nat.two_pow_pos n;exact Nat.lt_of_le_of_lt Adt (by omega)
 have hrest:Aa4 (2^n-1) x<2^32:=Nat.lt_of_le_of_lt Adt h2
 let mi:List (Int×Int):=mv.map fun d=>(d.Lhs,d.Rhs)
 have hmi:mi.map (fun m=>(sN m.1,sN m.2))=mv.map mN:=by simp only [mi,List.map_map];rfl
 have henc:mv.map Aa2=mi.map eMv:=by simp only [mi,List.map_map];rfl
 have hr:Ahz mi 40 (Ai5 n x)=some (lN (blkB (mv.map mN) (Aa4 (2^n-1) x))):=by
  rw [Bdn hn hx,Ats hrest (by intro m hm';obtain ⟨d,hd,rfl⟩:=List.mem_map.1 hm';exact hm d hd) Ajy (by omega),hmi];rfl
 have hp:BPart (Aa4 (2^n-1) x) (blkB (mv.map mN) (Aa4 (2^n-1) x)):=(Apg hrest Ajy (by omega)).1;have hord:=q49_.few (l:=lN (blkB (mv.map mN) (Aa4 (2^n-1) x))) (by have:=hp.len hrest6;rw [Ads];omega) (by
  intro y hy;obtain ⟨b,hb,rfl⟩:=List.mem_map.1 hy
  exact U32.of (hp.lt hrest hb))
 obtain ⟨N,hN⟩:=hord;refine Bi1 (p:=fun _=>none) (q:=Ag5 Blk.ordF) (by kernel_rfl) rfl (by kernel_rfl) ⟨N,fun m hm'=>?_⟩;simp only [Ag5,henc,Avm];rw [if_pos ⟨by omega,by simp only [mi,List.length_map];exact hlen⟩,hr];simp only [runAsk];have:Abb env m Blk.ordF [.sl ((lN (blkB (mv.map mN) (Aa4 (2^n-1) x))).map (eI .u32))]=some (.sl ((ordL (lN (blkB (mv.map mN) (Aa4 (2^n-1) x)))).map (eI .u32)),[]):=hN m hm';rw [this];rfl
def Al7 (d:api_FD):List api_MVD:=(Aah (sN d.Rhs)).map fun (a:Nat)=>⟨d.Lhs,((2^a:Nat):Int)⟩
def allI (fds:List api_FD) (mvds:List api_MVD):List api_MVD:=mvds++fds.flatMap Al7
theorem Ben {d:api_FD}:(Al7 d).length<=32:=by unfold Al7;rw [List.length_map];exact Aew
theorem q73_.spec {fds:List api_FD} {mvds:List api_MVD} (hf:FdOK fds) (h1:fds.length<=64) (h2:mvds.length<=64):q73_.C fds mvds (allI fds mvds):=by
 obtain ⟨r,e1,e2⟩:=q73_.enter fds mvds (fun r=>r=allI fds mvds) (by
  refine ⟨by omega,?_⟩;have go:∀ (l:List api_FD) (i:Nat) (acc:List api_MVD),fds.drop i=l->acc.length<=64+32*i->acc++l.flatMap Al7=allI fds mvds->q73_.L1 fds acc (i:Int) (fun r=>r=allI fds mvds):=by
   intro l
   induction l with
   | nil=>
    intro i acc hd hl h;have:=Aay hd;apply q73_.L1_step;rw [if_neg (by omega)];simpa using h
   | cons d l ih=>
    intro i acc hd hl h;have hlt:=Aaz hd;have hdm:=hf d (List.mem_of_getElem? (Aaq hd));apply q73_.L1_step;rw [if_pos (by omega)];have hmem:=q33_.spec hdm.2.lt;rw [← hdm.2.eq] at hmem;refine ⟨d,Abi hd,_,hmem,?_⟩;have hbl:=Aew (n:=sN d.Rhs);have inner:∀ (t:List Nat) (k:Nat) (acc:List api_MVD),(Aah (sN d.Rhs)).drop k=t->k<=(Aah (sN d.Rhs)).length->acc.length<=64+32*i+k->acc++(t.map fun (a:Nat)=>(⟨d.Lhs,((2^a:Nat):Int)⟩:api_MVD))++l.flatMap Al7=allI fds mvds->q73_.L2 fds acc d (i:Int) ((Aah (sN d.Rhs)).map fun (i:Nat)=>(i:Int)) (k:Int) (fun r=>r=allI fds mvds):=by
     intro t
     induction t with
     | nil=>
      intro k acc hk hkl hl2 h2;have:=Aay hk;apply q73_.L2_step;rw [if_neg (by simp;omega),Aa3 (by omega)];exact ih (i+1) acc (Aa8 hd) (by omega) (by simpa using h2)
     | cons a t ih2=>
      intro k acc hk hkl hl2 h2;have hklt:=Aaz hk;have ha:=Aaq hk;have ha32:a<32:=Ace.1 hdm.2.lt a ((Ab1 hdm.2.lt).1 (List.mem_of_getElem? ha));apply q73_.L2_step;rw [if_pos (by simp;omega)];refine ⟨(a:Int),Ad9 (by simp [ha]),by omega,by omega,?_⟩;rw [Aa3 (by omega),As1 (k:=.u32) (by simpa [top] using ha32)];exact ih2 (k+1) _ (Aa8 hk) (by omega) (by simp;omega) (by simpa using h2)
    exact inner (Aah (sN d.Rhs)) 0 acc rfl (by omega) (by omega) (by
     rw [List.append_assoc]
     simpa [Al7] using h)
  exact go fds 0 mvds rfl (by omega) rfl)
 rw [← e1];exact e2
theorem Bgi {fds:List api_FD} {mvds:List api_MVD} (hf:FdOK fds):(allI fds mvds).map mN=Ais (fds.map fN) (mvds.map mN):=by
 unfold allI Ais;rw [List.map_append,List.map_flatMap,List.flatMap_map];congr 1;refine flatMap_congr' fun d hd=>?_;unfold Al7 fdMv;rw [List.map_map];refine List.map_congr_left fun a ha=>?_;show (sN d.Lhs,sN ((2^a:Nat):Int))=_;rw [Aej];rfl
theorem Bin {fds:List api_FD} {mvds:List api_MVD} (hf:FdOK fds) (hm:Ahe mvds):Ahe (allI fds mvds):=by
 intro d hd;rcases List.mem_append.1 hd with hd | hd
 ·exact hm d hd
 ·obtain ⟨f,hfm,hd⟩:=List.mem_flatMap.1 hd;obtain ⟨a,ha,rfl⟩:=List.mem_map.1 hd;have hR:=(hf f hfm).2.lt;have ha32:a<32:=Ace.1 hR a ((Ab1 hR).1 ha);exact ⟨(hf f hfm).1,U32.of (Nat.pow_lt_pow_right (by omega) ha32)⟩
theorem Bgh {fds:List api_FD} {mvds:List api_MVD} (h1:fds.length<=64) (h2:mvds.length<=64):(allI fds mvds).length<1000000:=by
 have:(fds.flatMap Al7).length<=fds.length*32:=by
  clear h1
  induction fds with
  | nil=>simp
  | cons d l ih=>
   have:=Ben (d:=d);simp only [List.flatMap_cons,List.length_append,List.length_cons];omega
 unfold allI;rw [List.length_append];omega
theorem q61_.all {n x:Nat} {fds:List api_FD} {mvds:List api_MVD} (hn:n<=6) (hx:x<2^32) (hf:FdOK fds) (hm:Ahe mvds) (h1:fds.length<=64) (h2:mvds.length<=64):q61_.C n (allI fds mvds) x (ordL (lN (finB (fds.map fN) (mvds.map mN) (Aa4 (2^n-1) x)))):=by
 have:=q61_.spec hn hx (Bin hf hm) (Bgh h1 h2);rw [Bgi hf] at this;exact this
end Go.Own
