/- No conditions. -/
import Derived.Test.YtmiedlcblpiemaaDoorBasisSoundLaw13
import Derived.Test.YtmiedlcblpiemaaDoorBasisSoundLaw14
import Derived.Test.YtmiedlcblpiemaaDoorBasisSoundLaw2
set_option linter.all false
namespace Go.Own
def ltS (x y:Int):Bool:=decide (keyS x<keyS y)
theorem Bfg:Go.Sort.SWO ltS where
 irrefl:=fun x=>by unfold ltS;simp
 trans:=fun x y z h1 h2=>by unfold ltS at *;simp only [decide_eq_true_eq] at *;omega
 ntrans:=fun x y z h1 h2=>by unfold ltS at *;simp only [decide_eq_false_iff_not] at *;omega
theorem q51_.spec {x y:Int}:q51_.C x y (cmpI x y):=by
 obtain ⟨f1,g1,k1⟩:=q61_.enter x (fun r=>r=false) (by simp);obtain ⟨f2,g2,k2⟩:=q61_.enter y (fun r=>r=false) (by simp);subst g1 g2;obtain ⟨r,h1,h2⟩:=q51_.enter x y (fun r=>r=cmpI x y) (by
  refine ⟨_,k1,_,k2,?_⟩;rw [if_neg (by decide),if_neg (by decide)];unfold cmpI
  split
  ·rfl
  ·split<;>rfl)
 rw [← h1];exact h2
theorem q26_.spec {x y:Int}:q26_.C x y (cmpI x y):=by
 obtain ⟨f1,g1,k1⟩:=q34_.enter x (fun r=>r=false) (by simp);obtain ⟨f2,g2,k2⟩:=q34_.enter y (fun r=>r=false) (by simp);subst g1 g2;obtain ⟨r,h1,h2⟩:=q26_.enter x y (fun r=>r=cmpI x y) (by
  refine ⟨_,k1,_,k2,?_⟩;rw [if_neg (by decide),if_neg (by decide)];unfold cmpI
  split
  ·rfl
  ·split<;>rfl)
 rw [← h1];exact h2
theorem q77_.two {a b:Int}:q77_.C [a,b] (if a=0 then b else a):=by
 obtain ⟨r,h1,h2⟩:=q77_.enter [a,b] (fun r=>r=if a=0 then b else a) (by
  apply q77_.L1_step;rw [if_pos (by simp)];refine ⟨a,rfl,?_⟩;by_cases ha:a=0
  ·rw [if_pos ha];apply q77_.L1_step;have e:IntKind.wrap .i64 ((0:Int)+1)=1:=by decide
   rw [e,if_pos (by simp)];refine ⟨b,rfl,?_⟩;by_cases hb:b=0
   ·rw [if_pos hb];apply q77_.L1_step;have e:IntKind.wrap .i64 ((1:Int)+1)=2:=by decide
    rw [e,if_neg (by simp),if_pos ha,hb]
   ·rw [if_neg hb,if_pos ha]
  ·rw [if_neg ha,if_neg ha])
 rw [← h1];exact h2
theorem Bem:Alu U32 ltS q52_.C:=fun x y hx hy=>by
 obtain ⟨r,h1,h2⟩:=q52_.enter x y (fun r=>r<0↔ltS x y=true) (by
  refine ⟨_,q69_.spec hx,_,q69_.spec hy,_,q51_.spec,_,q26_.spec,_,q77_.two,?_⟩;unfold ltS;rw [decide_eq_true_eq,Bfa hx hy];have ex:=hx.eq;have ey:=hy.eq;unfold cmpI;generalize szN (sN x)=s at *;generalize szN (sN y)=t at *;by_cases h1:(s:Int)<t
  ·rw [if_pos h1,if_neg (by decide)];omega
  ·rw [if_neg h1];by_cases h2:(t:Int)<s
   ·rw [if_pos h2,if_neg (by decide)];omega
   ·rw [if_neg h2,if_pos rfl]
    split
    ·omega
    ·split<;>omega)
 exact ⟨r,h2,h1⟩
theorem Amu:∀ (l:List Int) (a b:Int),Aau (l++[a]++[b])=if a=b then Aau (l++[a]) else Aau (l++[a])++[b]
 | [],a,b=>by
  simp only [List.nil_append,List.singleton_append,Aau]
  split<;>simp_all
 | [c],a,b=>by
  simp only [List.singleton_append,List.cons_append,List.nil_append,Aau]
  split<;>split<;>simp_all
 | c::d::r,a,b=>by
  have ih:=Amu (d::r) a b;simp only [List.cons_append,Aau] at ih ⊢;rw [ih]
  split<;>split<;>simp
theorem Aii {l:List Int} {m:Nat} {a:Int} (h:l[m]? = some a):l.take (m+1)=l.take m++[a]:=by
 rw [List.take_add_one,h];rfl
theorem Ang {l:List Int} {m:Nat} {a b:Int} (ha:l[m]? = some a) (hb:l[m+1]? = some b):Aau (l.take (m+2))=if a=b then Aau (l.take (m+1)) else Aau (l.take (m+1))++[b]:=by
 have e1:l.take (m+2)=l.take m++[a]++[b]:=by rw [Aii (m:=m+1) hb,Aii ha]
 rw [e1,Aii ha,Amu]
namespace q18_
theorem inner {l:List Int} {o:Nat} {φ:List Int×Bool->Prop} (ho:1<=o) (hol:o<l.length) (hl:l.length<4611686018427387904) (h:∀ b,φ (Aau l,b)) (n:Nat):∀ (s:List Int) (k k2:Nat),l.length-o-k2<=n->1<=k2->o+k2<=l.length->s.length=l.length->k<=o+k2-1->s.take k=Aau (l.take (o+k2))->(∀ i,o+k2-1<=i->s[i]? = l[i]?)->L2 s k o (l.length-o) k2 φ:=by
 have hend:∀ (s:List Int) (k k2:Nat),o+k2=l.length->s.length=l.length->k<=o+k2-1->s.take k=Aau (l.take (o+k2))->L2 s k o (l.length-o) k2 φ:=fun s k k2 hk2 hs hk ht=>by
  apply L2_step;refine ⟨by omega,?_⟩;rw [if_neg (by rw [List.length_take,List.length_drop];omega)];refine ⟨by omega,⟨by omega,by omega⟩,by omega,by omega,by omega,by omega,⟨by omega,by omega,by omega⟩,?_⟩;rw [Int.toNat_natCast];have e:s.take k=Aau l:=by rw [ht,List.take_of_length_le (by omega)]
  rw [e];exact h _
 induction n with
 | zero=>intro s k k2 hn h1 hk2 hs hk ht hd;exact hend s k k2 (by omega) hs hk ht
 | succ n ih=>
  intro s k k2 hn h1 hk2 hs hk ht hd;by_cases hlt:o+k2<l.length
  ·apply L2_step;refine ⟨by omega,?_⟩;rw [if_pos (by rw [List.length_take,List.length_drop];omega)];obtain ⟨b,hb⟩:∃ b,l[o+k2]? = some b:=⟨_,List.getElem?_eq_getElem hlt⟩
   obtain ⟨a,ha⟩:∃ a,l[o+k2-1]? = some a:=⟨_,List.getElem?_eq_getElem (by omega)⟩
   have e1:(o:Int)+(k2:Int)=((o+k2:Nat):Int):=by omega
   have e2:IntKind.wrap .i64 ((k2:Int)-1)=((k2-1:Nat):Int):=wx _ _ (by omega) (by omega);have e3:(o:Int)+((k2-1:Nat):Int)=((o+k2-1:Nat):Int):=by omega
   have e4:IntKind.wrap .i64 ((k2:Int)+1)=((k2+1:Nat):Int):=wx _ _ (by omega) (by omega);have e5:IntKind.wrap .i64 ((k:Int)+1)=((k+1:Nat):Int):=wx _ _ (by omega) (by omega);rw [e1,e2,e3];have hstep:=Ang (l:=l) (m:=o+k2-1) ha (by rw [show o+k2-1+1=o+k2 by omega];exact hb);rw [show o+k2-1+2=o+(k2+1) by omega,show o+k2-1+1=o+k2 by omega] at hstep;refine ⟨b,by rw [Afp,hd _ (by omega)];exact hb,⟨by omega,by omega⟩,by omega,a,by rw [Afp,hd _ (by omega)];exact ha,⟨by omega,by omega⟩,by omega,?_⟩;by_cases hab:b=a
   ·rw [if_pos hab];apply L3_step;rw [e4];rw [if_pos hab.symm] at hstep;exact ih s k (k2+1) (by omega) (by omega) (by omega) hs (by omega) (by rw [ht,hstep]) (fun i hi=>hd i (by omega))
   ·rw [if_neg hab];rw [if_neg (fun h=>hab h.symm)] at hstep;obtain ⟨c,hc⟩:∃ c,s[k]? = some c:=⟨_,List.getElem?_eq_getElem (by omega)⟩
    refine ⟨⟨by omega,by omega⟩,by omega,c,by rw [Afp];exact hc,?_⟩;apply L3_step;rw [e4,e5];have hls:lset s (k:Int) b=s.set k b:=by unfold lset;rw [Int.toNat_natCast]
    rw [hls];refine ih (s.set k b) (k+1) (k2+1) (by omega) (by omega) (by omega) (by rw [List.length_set];exact hs) (by omega) ?_ (fun i hi=>?_)
    ·rw [hstep,← ht,Aii (a:=b) (by rw [List.getElem?_set_self (by omega)])];congr 1;rw [List.take_set_of_le (Nat.le_refl k)]
    ·rw [List.getElem?_set_ne (by omega)];exact hd i (by omega)
  ·exact hend s k k2 (by omega) hs hk ht
theorem outer {l:List Int} {φ:List Int×Bool->Prop} (hl:l.length<4611686018427387904) (h:∀ b,φ (Aau l,b)) (n:Nat):∀ i,l.length-i<=n->1<=i->i<=l.length->Aau (l.take i)=l.take i->L1 l i φ:=by
 induction n with
 | zero=>
  intro i hn h1 hi hc;apply L1_step;rw [if_neg (by omega)];have e:i=l.length:=by omega
  rw [e,List.take_length] at hc;have:=h true
  rwa [hc] at this
 | succ n ih=>
  intro i hn h1 hi hc;by_cases hlt:i<l.length
  ·apply L1_step;rw [if_pos (by omega)];obtain ⟨b,hb⟩:∃ b,l[i]? = some b:=⟨_,List.getElem?_eq_getElem hlt⟩
   obtain ⟨a,ha⟩:∃ a,l[i-1]? = some a:=⟨_,List.getElem?_eq_getElem (by omega)⟩
   have e2:IntKind.wrap .i64 ((i:Int)-1)=((i-1:Nat):Int):=wx _ _ (by omega) (by omega);have e4:IntKind.wrap .i64 ((i:Int)+1)=((i+1:Nat):Int):=wx _ _ (by omega) (by omega);rw [e2,e4];have hstep:=Ang (l:=l) (m:=i-1) ha (by rw [show i-1+1=i by omega];exact hb);rw [show i-1+2=i+1 by omega,show i-1+1=i by omega] at hstep;refine ⟨b,by rw [Afp];exact hb,a,by rw [Afp];exact ha,?_⟩;by_cases hab:b=a
   ·rw [if_pos hab];rw [if_pos hab.symm] at hstep;refine ⟨by omega,⟨by omega,by omega⟩,?_⟩;rw [Int.toNat_natCast];exact inner (o:=i) h1 hlt hl h (l.length-i-1) l i 1 (Nat.le_refl _) (Nat.le_refl _) (by omega) rfl (by omega) (by rw [hstep,hc]) (fun _ _=>rfl)
   ·rw [if_neg hab];rw [if_neg (fun h=>hab h.symm)] at hstep;exact ih (i+1) (by omega) (by omega) (by omega) (by rw [hstep,hc,Aii hb])
  ·apply L1_step;rw [if_neg (by omega)];have e:i=l.length:=by omega
   rw [e,List.take_length] at hc;have:=h true
   rwa [hc] at this
theorem spec {l:List Int} (hl:l.length<4611686018427387904):∃ b,C l (Aau l,b):=by
 obtain ⟨r,⟨b,rfl⟩,h2⟩:=enter l (fun r=>∃ b,r=(Aau l,b)) (by
  split
  ·rename_i h;refine ⟨true,?_⟩
   match l,h with
   | [],_=>rfl
   | [a],_=>rfl
   | _::_::_,h=>simp at h;omega
  ·rename_i h;have:1<=l.length:=by omega
   exact outer hl (fun b=>⟨b,rfl⟩) (l.length-1) 1 (by omega) (by omega) this (by
    obtain ⟨a,r,rfl⟩:∃ a r,l=a::r:=by cases l with
     | nil=>simp at this
     | cons a r=>exact ⟨a,r,rfl⟩
    rfl))
 exact ⟨b,h2⟩
end q18_
theorem q63_.spec {l:List Int} (hl:l.length<=35184372088832) (hu:AllU l):q63_.C l (ordL l):=by
 obtain ⟨r,h1,h2⟩:=q63_.enter l (fun r=>r=ordL l) (by
  obtain ⟨s,c,hp,ha⟩:=q9_.spec Bem Bfg (l:=l) (by omega) hu;have hlen:=hp.length_eq;obtain ⟨b,c2⟩:=q18_.spec (l:=s) (by omega);refine ⟨by omega,s,c,_,c2,?_⟩;have hus:AllU s:=fun x hx=>hu x (hp.mem_iff.1 hx);refine Bfn hu (Aja hus (ha.imp fun h=>?_)) fun y=>by rw [Agx,hp.mem_iff]
  unfold ltS at h;simp only [decide_eq_false_iff_not] at h;omega)
 rw [← h1];exact h2
theorem Aru {n:Nat} (hn:n<=16):2^n<=65536/\0<2^n:=⟨Nat.pow_le_pow_right (n:=2) (by omega) hn,Nat.pow_pos (by omega)⟩
def keyR (t:api_Table) (m i:Nat):ByteArray:=Abx (pick ((t.Rows[i]?).map (·.Values) |>.getD []) m)
theorem Aea {t:api_Table} {m i:Nat} (hi:i<t.Rows.length):keyR t m i=Abx (pick (t.Rows[i]).Values m):=by
 unfold keyR;rw [List.getElem?_eq_getElem hi];rfl
section
variable {t:api_Table}
theorem Bfo {m i k:Nat} (ht:TV t) (hm:m<2^32) (hi:i<t.Rows.length) (hk:k<t.Rows.length):pick (t.Rows[i]).Values m=pick (t.Rows[k]).Values m↔∀ a,m.testBit a=true->EqA t i k a:=by
 rw [← Ahr ht hm hi hk];unfold Ag2;rw [List.getElem?_map,List.getElem?_map,List.getElem?_eq_getElem hi,List.getElem?_eq_getElem hk];simp
theorem Alj {m i:Nat} (ht:TV t) (hn:TNum t) (hi:i<t.Rows.length):∀ v∈pick (t.Rows[i]).Values m,Aat v=true/\Ahx v:=fun v hv=>
 ⟨ht.val (List.getElem_mem hi) v (Amh v hv),hn _ (List.getElem_mem hi) v (Amh v hv)⟩
theorem At2 {m i k:Nat} (ht:TV t) (hi:i<t.Rows.length) (hk:k<t.Rows.length):(pick (t.Rows[i]).Values m).length=(pick (t.Rows[k]).Values m).length:=
 Bb5 (by rw [ht.len (List.getElem_mem hi),ht.len (List.getElem_mem hk)])
theorem Aia {m i k:Nat} (ht:TV t) (hn:TNum t) (hm:m<2^32) (hi:i<t.Rows.length) (hk:k<t.Rows.length):keyR t m i=keyR t m k↔∀ a,m.testBit a=true->EqA t i k a:=by
 rw [Aea hi,Aea hk,Au4 (At2 ht hi hk) (Alj ht hn hi) (Alj ht hn hk),Bfo ht hm hi hk]
theorem Ans {l m:List api_Value}:Abx l++Abx m=Abx (l++m):=by
 rw [← Aj8,Aon];unfold Abx;rw [Asn];simp [bstr,Af8,List.flatMap_append]
theorem Bfb {p q i k:Nat} (ht:TV t) (hn:TNum t) (hi:i<t.Rows.length) (hk:k<t.Rows.length) (h:keyR t p i++keyR t q i=keyR t p k++keyR t q k):keyR t p i=keyR t p k/\keyR t q i=keyR t q k:=by
 rw [Aea hi,Aea hi,Aea hk,Aea hk] at *;rw [Ans,Ans] at h;have l1:=At2 (m:=p) ht hi hk;have l2:=At2 (m:=q) ht hi hk;have:=(Au4 (by rw [List.length_append,List.length_append,l1,l2]) (fun v hv=>by
  rcases List.mem_append.1 hv with hv | hv
  ·exact Alj ht hn hi v hv
  ·exact Alj ht hn hi v hv) (fun v hv=>by
  rcases List.mem_append.1 hv with hv | hv
  ·exact Alj ht hn hk v hv
  ·exact Alj ht hn hk v hv)).1 h
 obtain ⟨h1,h2⟩:=List.append_inj this l1;rw [h1,h2];exact ⟨rfl,rfl⟩
def grpK (t:api_Table) (l:Nat) (s:ByteArray):List Nat:=(List.range t.Rows.length).filter fun i=>keyR t l i == s
theorem Afl {l i:Nat} {s:ByteArray}:i∈grpK t l s↔i<t.Rows.length/\keyR t l i=s:=by
 unfold grpK;rw [List.mem_filter,List.mem_range,Acu]
def okG (t:api_Table) (l p q:Nat) (s:ByteArray):Prop:=(dd ((grpK t l s).map (keyR t p))).length*(dd ((grpK t l s).map (keyR t q))).length=(dd ((grpK t l s).map fun i=>keyR t p i++keyR t q i)).length
theorem Bfk {l r:Nat} (ht:TV t) (hn:TNum t) (hl:l<2^t.Attrs.length) (hr:r<2^t.Attrs.length):(∀ i,i<t.Rows.length->okG t l (Aa6 r l) (Aa6 (2^t.Attrs.length-1) (l ||| r)) (keyR t l i))↔MvP t l r:=by
 have na:=ht.na;have hp:=Aru na;have hR:Aa6 r l<2^32:=Nat.lt_of_le_of_lt Aeq (by omega);have hS:Aa6 (2^t.Attrs.length-1) (l ||| r)<2^32:=Nat.lt_of_le_of_lt Aeq (by omega);have all:∀ s,okG t l (Aa6 r l) (Aa6 (2^t.Attrs.length-1) (l ||| r)) s↔∀ x∈grpK t l s,∀ y∈grpK t l s,∃ z∈grpK t l s,keyR t (Aa6 r l) z=keyR t (Aa6 r l) x/\keyR t (Aa6 (2^t.Attrs.length-1) (l ||| r)) z=keyR t (Aa6 (2^t.Attrs.length-1) (l ||| r)) y:=fun s=>
  Bba fun x hx y hy h=>Bfb ht hn (Afl.1 hx).1 (Afl.1 hy).1 h
 have bitS:∀ a,(Aa6 (2^t.Attrs.length-1) (l ||| r)).testBit a=true↔a<t.Attrs.length/\(l ||| r).testBit a=false:=fun a=>by
  rw [Ab0,Nat.testBit_two_pow_sub_one,Bool.and_eq_true,decide_eq_true_eq,Bool.not_eq_true']
 constructor
 ·intro h i k hi hk he;have hki:=(Aia ht hn (show l<2^32 by omega) hi hk).2 he;obtain ⟨j,hj,e1,e2⟩:=(all _).1 (h i hi) i (Afl.2 ⟨hi,rfl⟩) k (Afl.2 ⟨hk,hki.symm⟩);obtain ⟨hjl,hjk⟩:=Afl.1 hj;refine ⟨j,hjl,fun a ha=>?_,fun a ha hb=>(Aia ht hn hS hjl hk).1 e2 a ((bitS a).2 ⟨ha,hb⟩)⟩;by_cases hla:l.testBit a=true
  ·exact (Aia ht hn (show l<2^32 by omega) hjl hi).1 hjk a hla
  ·refine (Aia ht hn hR hjl hi).1 e1 a ?_;rw [Nat.testBit_or,Bool.or_eq_true] at ha;rw [Ab0,(ha.resolve_left hla)];simpa using hla
 ·intro h i hi;refine (all _).2 fun x hx y hy=>?_;obtain ⟨hxl,hxk⟩:=Afl.1 hx;obtain ⟨hyl,hyk⟩:=Afl.1 hy;obtain ⟨j,hjl,e1,e2⟩:=h x y hxl hyl ((Aia ht hn (show l<2^32 by omega) hxl hyl).1 (hxk.trans hyk.symm));refine ⟨j,Afl.2 ⟨hjl,?_⟩,(Aia ht hn hR hjl hxl).2 fun a ha=>e1 a ?_,(Aia ht hn hS hjl hyl).2 fun a ha=>?_⟩
  ·rw [← hxk];exact (Aia ht hn (show l<2^32 by omega) hjl hxl).2 fun a ha=>e1 a (by rw [Nat.testBit_or,ha];rfl)
  ·rw [Ab0,Bool.and_eq_true] at ha;rw [Nat.testBit_or,ha.1,Bool.or_true]
  ·obtain ⟨h1,h2⟩:=(bitS a).1 ha;exact e2 a h1 h2
end
def lN (R:List Nat):List Int:=R.map fun (m:Nat)=>(m:Int)
theorem Arh {R:List Nat}:(lN R).length=R.length:=by simp [lN]
def fN (d:api_FD):Nat×Nat:=(sN d.Lhs,sN d.Rhs)
def mN (d:api_MVD):Nat×Nat:=(sN d.Lhs,sN d.Rhs)
theorem Ad3 {a:Nat} (h:a<2^32):a<2^top .u32:=by simpa [top] using h
structure Grows (m:Nat×Nat) (I:List Nat->Prop):Prop where
 lt:∀ R,I R->∀ r∈R,r<2^32
 len:∀ R,I R->R.length<=64
 add:∀ R r s,I R->r∈R->s∈R->Aqm m.1 r s->mixR m r s ∉ R->I (R++[mixR m r s])
def Bfy (fds:List (Nat×Nat)) (bs:List Nat) (rest live:Nat) (R:List Nat):Prop:=R.Nodup/\CI fds bs rest live fun u=>u∈R
section
variable {fds mvds:List (Nat×Nat)} {bs:List Nat} {rest live:Nat}
end
theorem Awt {n:Nat} (hn:n<=16):IntKind.wrap .u32 (shlw .u32 1 (n:Int)-1)=((2^n-1:Nat):Int):=by
 have hp:=Aru hn;have e:shlw .u32 1 (n:Int)=((2^n:Nat):Int):=Amm (k:=.u32) (by simp only [top];omega);rw [e,show (((2^n:Nat):Int)-1)=((2^n-1:Nat):Int) by omega];exact Ad8 (k:=.u32) (by simp only [top];omega)
theorem Azb {n:Nat} (hn:n<=16):Ad1 n=2^n-1:=by unfold Ad1;rw [Nat.min_eq_left (by omega)]
theorem Bdv {l r:Int} (hl:U32 l) (hr:U32 r) {b:Nat} (hb:b<2^32):splI l r (b:Int)=Abc (sN l,sN r) b:=by
 have e1:bAnd .u32 (b:Int) l=((b &&& sN l:Nat):Int):=by
  conv=>lhs;rw [hl.eq]
  exact Ae1 (Ad3 hb) hl.top
 have e2:bAnd .u32 (b:Int) r=((b &&& sN r:Nat):Int):=by
  conv=>lhs;rw [hr.eq]
  exact Ae1 (Ad3 hb) hr.top
 have e3:Aah .u32 (b:Int) r=((Aa6 b (sN r):Nat):Int):=by
  conv=>lhs;rw [hr.eq]
  exact Acn (Ad3 hb) hr.top
 have z:∀ x:Nat,(((x:Nat):Int) == 0)=decide (x=0):=fun x=>by
  rw [Bool.eq_iff_iff,beq_iff_eq,decide_eq_true_eq];omega
 have z2:∀ x:Nat,(((x:Nat):Int) != 0)=decide (x≠0):=fun x=>by
  rw [Bool.eq_iff_iff,bne_iff_ne,decide_eq_true_eq];omega
 unfold splI Abc;rw [e1,e2,e3,z,z2,z2]
theorem Anq {m:Int×Int} (hl:U32 m.1) (hr:U32 m.2):∀ (S P N:List Nat) (ag:Bool),(∀ b∈S,b<2^32)->P.length+S.length+N.length+S.length<=1000000 ->
  Agb m.1 m.2 S.length P.length (lN (P++S++N),ag)=some (lN (P++S.map (fun b=>if Abc (sN m.1,sN m.2) b=true then b &&& sN m.2 else b)++(N++(S.filter (Abc (sN m.1,sN m.2))).map fun b=>Aa6 b (sN m.2))),ag || S.any (Abc (sN m.1,sN m.2)))
 | [],P,N,ag,_,_=>by simp [Agb]
 | b::S,P,N,ag,hS,hlen=>by
  have hb:=hS b (by simp);simp only [List.length_cons] at hlen;have hget:(lN (P++(b::S)++N))[P.length]? = some (b:Int):=by
   unfold lN;rw [List.getElem?_map,List.append_assoc,List.getElem?_append_right (Nat.le_refl _)];simp
  simp only [List.length_cons,Agb,hget,Bdv hl hr hb];cases hs:Abc (sN m.1,sN m.2) b with
  | false=>
   simp only [Bool.false_eq_true,if_false];have:=Anq hl hr S (P++[b]) N ag (fun c hc=>hS c (by simp [hc])) (by simp;omega);simp only [List.length_append,List.length_singleton,List.append_assoc,List.singleton_append] at this ⊢;rw [this];simp [hs]
  | true=>
   have e2:bAnd .u32 (b:Int) m.2=((b &&& sN m.2:Nat):Int):=by
    conv=>lhs;rw [hr.eq]
    exact Ae1 (Ad3 hb) hr.top
   have e3:Aah .u32 (b:Int) m.2=((Aa6 b (sN m.2):Nat):Int):=by
    conv=>lhs;rw [hr.eq]
    exact Acn (Ad3 hb) hr.top
   simp only [if_true];rw [if_pos (by rw [Arh];simp;omega),e2,e3];have hset:(lN (P++(b::S)++N)).set P.length ((b &&& sN m.2:Nat):Int)++[((Aa6 b (sN m.2):Nat):Int)]=lN ((P++[b &&& sN m.2])++S++(N++[Aa6 b (sN m.2)])):=by
    unfold lN;simp
   rw [hset];have:=Anq hl hr S (P++[b &&& sN m.2]) (N++[Aa6 b (sN m.2)]) true (fun c hc=>hS c (by simp [hc])) (by simp;omega);simp only [List.length_append,List.length_singleton,List.append_assoc,List.singleton_append] at this ⊢;rw [this];simp [hs]
theorem BPart.lt {rest n:Nat} {bs:List Nat} (h:BPart rest bs) (hr:rest<2^n) {b:Nat} (hb:b∈bs):b<2^n:=Adu.2 fun i hi=>Adu.1 hr i ((h.all i).2 ⟨b,hb,hi⟩)
theorem Awr {rest:Nat} (hr:rest<2^32):∀ {mv:List (Int×Int)},(∀ m∈mv,U32 m.1/\U32 m.2)->∀ {L:List Nat} (ag:Bool),BPart rest L ->
  Aiu mv (lN L,ag)=some (lN (Adw (mv.map fun m=>(sN m.1,sN m.2)) L),ag || decide (L.length<(Adw (mv.map fun m=>(sN m.1,sN m.2)) L).length))
 | [],_,L,ag,_=>by simp [Aiu,Adw]
 | m::mv,hm,L,ag,hp=>by
  have hlen:=hp.len hr;have h1:=Anq (m:=m) (hm m (by simp)).1 (hm m (by simp)).2 L [] [] ag (fun b hb=>hp.lt hr hb) (by simp;omega);simp only [List.nil_append,List.append_nil,List.length_nil] at h1;have h2:=Awr hr (fun m' h'=>hm m' (List.mem_cons_of_mem _ h')) (L:=Abo (sN m.1,sN m.2) L) (ag || L.any (Abc (sN m.1,sN m.2))) (hp.split _);simp only [Aiu,Arh];rw [if_pos (by omega),h1];show Aiu mv (lN (Abo (sN m.1,sN m.2) L),_)=_;rw [h2];simp only [List.map_cons,Adw,zJ,Prod.mk.injEq,true_and];have h3:=Ajr (m:=(sN m.1,sN m.2)) (bs:=L);have h4:=Akj (mv:=mv.map fun m=>(sN m.1,sN m.2)) (bs:=Abo (sN m.1,sN m.2) L);rw [Bool.or_assoc];congr 1;rw [Bool.eq_iff_iff,Bool.or_eq_true,decide_eq_true_eq,decide_eq_true_eq];constructor
  ·rintro (h | h)
   ·obtain ⟨b,hb,hs⟩:=List.any_eq_true.1 h;have:0<(L.filter (Abc (sN m.1,sN m.2))).length:=List.length_pos_of_mem (List.mem_filter.2 ⟨hb,hs⟩);omega
   ·omega
  ·intro h;by_cases h0:(L.filter (Abc (sN m.1,sN m.2))).length=0
   ·right;omega
   ·left;obtain ⟨b,hb⟩:=List.exists_mem_of_length_pos (Nat.pos_of_ne_zero h0);obtain ⟨hb,hs⟩:=List.mem_filter.1 hb;exact List.any_eq_true.2 ⟨b,hb,hs⟩
theorem Ary {rest:Nat} (hr:rest<2^32) {mv:List (Int×Int)} (hm:∀ m∈mv,U32 m.1/\U32 m.2):∀ {k:Nat} {L:List Nat},BPart rest L->32<k+L.length->Ah9 mv k (lN L)=some (lN (Af4 (mv.map fun m=>(sN m.1,sN m.2)) k L))
 | 0,L,hp,hk=>absurd (hp.len hr) (by omega)
 | k+1,L,hp,hk=>by
  have h1:=Akj (mv:=mv.map fun m=>(sN m.1,sN m.2)) (bs:=L);simp only [Ah9,Awr hr hm false hp,Af4,Bool.false_or,decide_eq_true_eq];by_cases he:(Adw (mv.map fun m=>(sN m.1,sN m.2)) L).length=L.length
  ·rw [if_pos he,if_neg (by omega)]
  ·rw [if_neg he,if_pos (by omega)];exact Ary hr hm hp.pass (by omega)
theorem Ba1 {n x:Nat} (hn:n<=16) (hx:x<2^32):Ahf (n:Int) (x:Int)=lN (Ajs (Aa6 (2^n-1) x)):=by
 have h1:=Awt hn;have h2:2^n-1<2^32:=Nat.lt_of_lt_of_le (Nat.sub_lt (Nat.pow_pos (by omega)) (by omega)) (Nat.pow_le_pow_right (by omega) (by omega));have e:Aiv (n:Int) (x:Int)=((Aa6 (2^n-1) x:Nat):Int):=by
  unfold Aiv;rw [h1];exact Acn (Ad3 h2) (Ad3 hx)
 unfold Ahf Ajs;rw [e];by_cases h0:Aa6 (2^n-1) x=0
 ·rw [if_pos h0,if_neg (by simp [h0])];rfl
 ·rw [if_neg h0,if_pos (by simp;omega)];rfl
theorem Aml {E:Env} {f:Nat} {p:List D->Option (D×List D)} {q:List D->Ask} {ds:List D} {r:D} {outs:List D} (h1:E.prim f=some p) (h2:p ds=none) (h3:E.hand f=some q) (h4:∃ N,∀ n,N<=n->runAsk (Abd E n) (q ds)=some (r,outs)):Ret E f ds r outs:=by
 obtain ⟨N,hN⟩:=h4;refine ⟨N+1,fun m hm=>?_⟩;obtain ⟨k,rfl⟩:∃ k,m=k+1:=⟨m-1,by omega⟩
 simp only [Abd,h1,h2,h3];exact hN k (by omega)
def blkB (mv:List (Nat×Nat)) (rest:Nat):List Nat:=Af4 mv 40 (Ajs rest)
theorem q70_.spec {n x:Nat} {mv:List api_MVD} (hn:n<=16) (hx:x<2^32) (hm:Agh mv) (hlen:mv.length<1000000):q70_.C n mv x (ordL (lN (blkB (mv.map mN) (Aa6 (2^n-1) x)))):=by
 have h2:2^n-1<2^32:=Nat.lt_of_lt_of_le (Nat.sub_lt (Nat.pow_pos (by omega)) (by omega)) (Nat.pow_le_pow_right (by omega) (by omega));have hrest:Aa6 (2^n-1) x<2^32:=Nat.lt_of_le_of_lt Aeq h2
 let mi:List (Int×Int):=mv.map fun d=>(d.Lhs,d.Rhs)
 have hmi:mi.map (fun m=>(sN m.1,sN m.2))=mv.map mN:=by simp only [mi,List.map_map];rfl
 have henc:mv.map Aa3=mi.map eMv:=by simp only [mi,List.map_map];rfl
 have hr:Ah9 mi 40 (Ahf n x)=some (lN (blkB (mv.map mN) (Aa6 (2^n-1) x))):=by
  rw [Ba1 hn hx,Ary hrest (by intro m hm';obtain ⟨d,hd,rfl⟩:=List.mem_map.1 hm';exact hm d hd) Aiy (by omega),hmi];rfl
 have hp:BPart (Aa6 (2^n-1) x) (blkB (mv.map mN) (Aa6 (2^n-1) x)):=(Ao3 hrest Aiy (by omega)).1;have hord:=q63_.spec (l:=lN (blkB (mv.map mN) (Aa6 (2^n-1) x))) (by have:=hp.len hrest;rw [Arh];omega) (by
  intro y hy;obtain ⟨b,hb,rfl⟩:=List.mem_map.1 hy;exact U32.of (hp.lt hrest hb))
 obtain ⟨N,hN⟩:=hord;refine Aml (p:=fun _=>none) (q:=Afy Blk.ordF) (by kernel_rfl) rfl (by kernel_rfl) ⟨N,fun m hm'=>?_⟩;simp only [Afy,henc,Ato];rw [if_pos ⟨by omega,by simp only [mi,List.length_map];exact hlen⟩,hr];simp only [runAsk];have:Abd env m Blk.ordF [.sl ((lN (blkB (mv.map mN) (Aa6 (2^n-1) x))).map (eI .u32))]=some (.sl ((ordL (lN (blkB (mv.map mN) (Aa6 (2^n-1) x)))).map (eI .u32)),[]):=hN m hm';rw [this];rfl
def Akc (d:api_FD):List api_MVD:=(Aar (sN d.Rhs)).map fun (a:Nat)=>⟨d.Lhs,((2^a:Nat):Int)⟩
def allI (fds:List api_FD) (mvds:List api_MVD):List api_MVD:=mvds++fds.flatMap Akc
theorem Bb0 {d:api_FD}:(Akc d).length<=32:=by unfold Akc;rw [List.length_map];exact Afv
theorem q79_.spec {fds:List api_FD} {mvds:List api_MVD} (hf:FdOK fds) (h1:fds.length<=64) (h2:mvds.length<=64):q79_.C fds mvds (allI fds mvds):=by
 obtain ⟨r,e1,e2⟩:=q79_.enter fds mvds (fun r=>r=allI fds mvds) (by
  refine ⟨by omega,?_⟩;have go:∀ (l:List api_FD) (i:Nat) (acc:List api_MVD),fds.drop i=l->acc.length<=64+32*i->acc++l.flatMap Akc=allI fds mvds->q79_.L1 fds acc (i:Int) (fun r=>r=allI fds mvds):=by
   intro l
   induction l with
   | nil=>
    intro i acc hd hl h;have:=Ack hd;apply q79_.L1_step;rw [if_neg (by omega)];simpa using h
   | cons d l ih=>
    intro i acc hd hl h;have hlt:=Acl hd;have hdm:=hf d (List.mem_of_getElem? (Aba hd));apply q79_.L1_step;rw [if_pos (by omega)];have hmem:=q47_.spec hdm.2.lt;rw [← hdm.2.eq] at hmem;refine ⟨d,Afo hd,_,hmem,?_⟩;have hbl:=Afv (n:=sN d.Rhs);have inner:∀ (t:List Nat) (k:Nat) (acc:List api_MVD),(Aar (sN d.Rhs)).drop k=t->k<=(Aar (sN d.Rhs)).length->acc.length<=64+32*i+k->acc++(t.map fun (a:Nat)=>(⟨d.Lhs,((2^a:Nat):Int)⟩:api_MVD))++l.flatMap Akc=allI fds mvds->q79_.L2 fds acc d (i:Int) ((Aar (sN d.Rhs)).map fun (i:Nat)=>(i:Int)) (k:Int) (fun r=>r=allI fds mvds):=by
     intro t
     induction t with
     | nil=>
      intro k acc hk hkl hl2 h2;have:=Ack hk;apply q79_.L2_step;rw [if_neg (by simp;omega),Aa9 (by omega)];exact ih (i+1) acc (Abs hd) (by omega) (by simpa using h2)
     | cons a t ih2=>
      intro k acc hk hkl hl2 h2;have hklt:=Acl hk;have ha:=Aba hk;have ha32:a<32:=Adu.1 hdm.2.lt a ((Abj hdm.2.lt).1 (List.mem_of_getElem? ha));apply q79_.L2_step;rw [if_pos (by simp;omega)];refine ⟨(a:Int),Abb (by simp [ha]),by omega,by omega,?_⟩;rw [Aa9 (by omega),Amm (k:=.u32) (by simpa [top] using ha32)];exact ih2 (k+1) _ (Abs hk) (by omega) (by simp;omega) (by simpa using h2)
    exact inner (Aar (sN d.Rhs)) 0 acc rfl (by omega) (by omega) (by
     rw [List.append_assoc];simpa [Akc] using h)
  exact go fds 0 mvds rfl (by omega) rfl)
 rw [← e1];exact e2
theorem Bci {fds:List api_FD} {mvds:List api_MVD} (hf:FdOK fds):(allI fds mvds).map mN=Aqn (fds.map fN) (mvds.map mN):=by
 unfold allI Aqn;rw [List.map_append,List.map_flatMap,List.flatMap_map];congr 1;refine flatMap_congr' fun d hd=>?_;unfold Akc fdMv;rw [List.map_map];refine List.map_congr_left fun a ha=>?_;show (sN d.Lhs,sN ((2^a:Nat):Int))=_;rw [Acy];rfl
theorem Beb {fds:List api_FD} {mvds:List api_MVD} (hf:FdOK fds) (hm:Agh mvds):Agh (allI fds mvds):=by
 intro d hd;rcases List.mem_append.1 hd with hd | hd
 ·exact hm d hd
 ·obtain ⟨f,hfm,hd⟩:=List.mem_flatMap.1 hd;obtain ⟨a,ha,rfl⟩:=List.mem_map.1 hd;have hR:=(hf f hfm).2.lt;have ha32:a<32:=Adu.1 hR a ((Abj hR).1 ha);exact ⟨(hf f hfm).1,U32.of (Nat.pow_lt_pow_right (by omega) ha32)⟩
theorem Bch {fds:List api_FD} {mvds:List api_MVD} (h1:fds.length<=64) (h2:mvds.length<=64):(allI fds mvds).length<1000000:=by
 have:(fds.flatMap Akc).length<=fds.length*32:=by
  clear h1
  induction fds with
  | nil=>simp
  | cons d l ih=>
   have:=Bb0 (d:=d);simp only [List.flatMap_cons,List.length_append,List.length_cons];omega
 unfold allI;rw [List.length_append];omega
theorem q70_.all {n x:Nat} {fds:List api_FD} {mvds:List api_MVD} (hn:n<=16) (hx:x<2^32) (hf:FdOK fds) (hm:Agh mvds) (h1:fds.length<=64) (h2:mvds.length<=64):q70_.C n (allI fds mvds) x (ordL (lN (finB (fds.map fN) (mvds.map mN) (Aa6 (2^n-1) x)))):=by
 have:=q70_.spec hn hx (Beb hf hm) (Bch h1 h2);rw [Bci hf] at this;exact this
theorem Bdb {v:api_Value}:keyW v=Abx [v]:=by
 unfold keyW Ak5 Abx bstr Af8;simp [b8]
theorem Arf {l:List api_Value}:(Abx l).size=(Af8 l).length:=by
 show (Abx l).data.size=_;unfold Abx bstr;rw [List.size_toArray,List.length_map]
theorem Anr:∀ {l:List api_Value},(∀ v∈l,Aat v=true)->(Af8 l).length<=403*l.length
 | [],_=>by simp [Af8]
 | a::l,h=>by
  have h1:=Anr (l:=l) fun v hv=>h v (by simp [hv]);have h2:=Awc (h a (by simp));simp only [Af8,List.flatMap_cons,List.length_append,List.length_cons] at h1 ⊢;omega
theorem Awf {l:List api_Value} {n:Nat} (h:∀ v∈l,Aat v=true):(Abx (pick l n)).size<=12896:=by
 rw [Arf];have h1:=Anr (l:=pick l n) fun v hv=>h v (Amh v hv);have h2:=Aws (l:=l) (n:=n);omega
namespace q80_
theorem spec {t:api_Table} (ht:TV t) {r:api_Row} (hr:r∈t.Rows) {n:Nat} (hn:n<2^t.Attrs.length):C r n (Abx (pick r.Values n)):=by
 have hn32:n<2^32:=Nat.lt_of_lt_of_le hn (Nat.pow_le_pow_right (by decide) (by have:=ht.na;omega));have hl:=Afv (n:=n);obtain ⟨q,h1,h2⟩:=enter r n (fun q=>q=Abx (pick r.Values n)) (by
  refine ⟨_,q47_.spec hn32,?_⟩;have loop:∀ j,j<=(Aar n).length->L1 r (Abx (((Aar n).take j).filterMap fun i=>r.Values[i]?)) ((Aar n).map fun (i:Nat)=>(i:Int)) (j:Int) fun q=>q=Abx (pick r.Values n):=by
   refine down ?_ ?_
   ·apply L1_step;rw [List.length_map,if_neg (by omega),List.take_length];rfl
   ·intro j hj h;apply L1_step;rw [List.length_map,if_pos (by omega)];have hget:=List.getElem?_eq_getElem hj;generalize (Aar n)[j]=i at hget;have hi:=(Abj hn32).1 (List.mem_of_getElem? hget);have hilt:i<t.Attrs.length:=by
     false_or_by_contra
     rename_i hh;rw [Nat.testBit_lt_two_pow (Nat.lt_of_lt_of_le hn (Nat.pow_le_pow_right (by decide) (by omega)))] at hi;cases hi
    have hrl:=ht.len hr;have hv:=List.getElem?_eq_getElem (l:=r.Values) (i:=i) (by omega);generalize r.Values[i]'(by omega)=v at hv;have hval:=ht.val hr v (List.mem_of_getElem? hv);refine ⟨(i:Int),by rw [Afp,List.getElem?_map,hget];rfl,v,Abb hv,(keyW v,0),q78_.spec hval,?_,?_⟩
    ·have a1:=Anr (l:=((Aar n).take j).filterMap fun i=>r.Values[i]?) (fun v hv=>by
      obtain ⟨i,_,hi⟩:=List.mem_filterMap.1 hv;exact ht.val hr v (List.mem_of_getElem? hi))
     have a2:(((Aar n).take j).filterMap fun i=>r.Values[i]?).length<=32:=Nat.le_trans (List.length_filterMap_le _ _) (by rw [List.length_take];omega);have a3:=Awc hval;rw [Arf,Bbf];omega
    ·rw [Aa9 (by omega)];have e:(((Aar n).take (j+1)).filterMap fun i=>r.Values[i]?)=(((Aar n).take j).filterMap fun i=>r.Values[i]?)++[v]:=by
      rw [List.take_add_one,hget,List.filterMap_append];simp [hv]
     rw [e] at h;simp only [Bdb,Ans];exact h
  have:=loop 0 (Nat.zero_le _);simpa [Abx,Af8,bstr] using this)
 rw [← h1];exact h2
end q80_
def row3 (l p q:Nat) (r:api_Row):Key3:=(Abx (pick r.Values l),Abx (pick r.Values p),Abx (pick r.Values q))
theorem Avj {t:api_Table} (ht:TV t) {l p q:Nat} (hl:l<2^t.Attrs.length) (hp:p<2^t.Attrs.length) (hq:q<2^t.Attrs.length) (k:List Key3->Ask):∀ (rs:List api_Row),(∀ r∈rs,r∈t.Rows)->∃ N,∀ m,N<=m->∀ acc,runAsk (Abd env m) (Agq Hol.keyF l p q k (rs.map Aa2) acc)=runAsk (Abd env m) (k (acc++rs.map (row3 l p q)))
 | [],_=>⟨0,fun m _ acc=>by simp [Agq]⟩
 | r::rs,h=>by
  obtain ⟨N,hN⟩:=Avj ht hl hp hq k rs fun r hr=>h r (by simp [hr]);have hr:=h r (by simp);obtain ⟨N1,h1⟩:=q80_.spec ht hr hl;obtain ⟨N2,h2⟩:=q80_.spec ht hr hp;obtain ⟨N3,h3⟩:=q80_.spec ht hr hq;refine ⟨N+N1+N2+N3,fun m hm acc=>?_⟩;have k1:Abd env m Hol.keyF [.agg [.lit (.int .i64 r.ID),.sl (r.Values.map Aa1)],.lit (.int .u32 l)]=some (.lit (.string (Abx (pick r.Values l))),[]):=h1 m (by omega);have k2:Abd env m Hol.keyF [.agg [.lit (.int .i64 r.ID),.sl (r.Values.map Aa1)],.lit (.int .u32 p)]=some (.lit (.string (Abx (pick r.Values p))),[]):=h2 m (by omega);have k3:Abd env m Hol.keyF [.agg [.lit (.int .i64 r.ID),.sl (r.Values.map Aa1)],.lit (.int .u32 q)]=some (.lit (.string (Abx (pick r.Values q))),[]):=h3 m (by omega);have z1:=Awf (l:=r.Values) (n:=p) fun v hv=>ht.val hr v hv;have z2:=Awf (l:=r.Values) (n:=q) fun v hv=>ht.val hr v hv;have e:(r::rs).map Aa2=[.lit (.int .i64 r.ID),.sl (r.Values.map Aa1)]::rs.map Aa2:=rfl;rw [e];simp only [Agq,runAsk,k1,k2,k3];rw [if_pos (by omega),hN m (by omega)];simp [row3]
theorem Bdl {t:api_Table} {l p q:Nat}:okH (t.Rows.map (row3 l p q))=true↔∀ i,i<t.Rows.length->okG t l p q (keyR t l i):=by
 have e:t.Rows.map (row3 l p q)=(List.range t.Rows.length).map fun i=>(keyR t l i,keyR t p i,keyR t q i):=by
  apply List.ext_getElem
  ·simp
  ·intro i h1 h2;simp only [List.getElem_map,List.getElem_range];rw [List.length_map] at h1;rw [Aea h1,Aea h1,Aea h1];rfl
 have eg:∀ s,grpH (t.Rows.map (row3 l p q)) s=(grpK t l s).map fun i=>(keyR t l i,keyR t p i,keyR t q i):=fun s=>by
  rw [e];unfold grpH grpK;rw [List.filter_map];exact congrArg _ (List.filter_congr fun i _=>Eq.refl (keyR t l i == s))
 have eo:∀ s,okK (t.Rows.map (row3 l p q)) s↔okG t l p q s:=fun s=>by
  unfold okK set1 set2 set3 okG;rw [eg];simp only [List.map_map];exact Iff.rfl
 rw [At1];constructor
 ·intro h i hi;rw [Aea hi];have hm:=h (row3 l p q t.Rows[i]) (List.mem_map.2 ⟨t.Rows[i],List.getElem_mem hi,rfl⟩);simp only [row3] at hm;exact (eo _).1 hm
 ·intro h x hx;obtain ⟨r,hr,rfl⟩:=List.mem_map.1 hx;obtain ⟨i,hi,rfl⟩:=List.getElem_of_mem hr;have:=h i hi;rw [Aea hi] at this;simp only [row3];exact (eo _).2 this
noncomputable def Al9 (t:api_Table) (m:api_MVD):Bool×Int:=if Aex t=0 then Ai9 t m else (false,Aex t)
theorem q74_.spec {t:api_Table} (hn:TNum t) {m:api_MVD} (hl:U32 m.Lhs) (hr:U32 m.Rhs):q74_.C t m (Al9 t m):=by
 obtain ⟨N,hN⟩:=q72_.spec (t:=t);have kv:∀ j,N<=j->Abd env j Hol.valF [.agg [.lit (.string t.Name),.sl (t.Attrs.map eS),.sl (t.Rows.map Aa2)]]=some (.lit (.int .i64 (Aex t)),[]):=fun j hj=>hN j hj;by_cases h0:Aex t=0
 ·have ht:=Amn.1 h0;have na:=ht.na;have pw:=Aru na;have p16:2^t.Attrs.length<=2^16:=Nat.pow_le_pow_right (by decide) na;have p0:=Nat.two_pow_pos t.Attrs.length;have eor:=orI hl hr;have hor:sN m.Lhs ||| sN m.Rhs<2^32:=Nat.or_lt_two_pow hl.lt hr.lt
  have eshr:shrw .u32 (bOr .u32 m.Lhs m.Rhs) ((t.Attrs.map eS).length:Int)=(((sN m.Lhs ||| sN m.Rhs) / 2^t.Attrs.length:Nat):Int):=by
   rw [List.length_map,eor];exact Ae4 (Ad3 hor)
  by_cases hin:inU t.Attrs.length m.Lhs m.Rhs=true
  ·have hlt:=Ar8.1 hin;have hl2:sN m.Lhs<2^t.Attrs.length:=Nat.lt_of_le_of_lt Nat.left_le_or hlt;have hr2:sN m.Rhs<2^t.Attrs.length:=Nat.lt_of_le_of_lt Nat.right_le_or hlt;have hp2:Aa6 (sN m.Rhs) (sN m.Lhs)<2^t.Attrs.length:=Nat.lt_of_le_of_lt Aeq hr2;have hq2:Aa6 (2^t.Attrs.length-1) (sN m.Lhs ||| sN m.Rhs)<2^t.Attrs.length:=Nat.lt_of_le_of_lt Aeq (by omega);have e1:Aew m.Lhs m.Rhs=((Aa6 (sN m.Rhs) (sN m.Lhs):Nat):Int):=by
    unfold Aew
    conv=>lhs;rw [hl.eq,hr.eq]
    exact Acn hr.top hl.top
   have e2:Agk ((t.Attrs.map eS).length:Int) m.Lhs m.Rhs=((Aa6 (2^t.Attrs.length-1) (sN m.Lhs ||| sN m.Rhs):Nat):Int):=by
    unfold Agk;rw [List.length_map,eor,Awt na];exact Acn (Ad3 (by omega)) (Ad3 hor)
   obtain ⟨N2,hN2⟩:=Avj ht hl2 hp2 hq2 (fun L=>.ret (some (resH (okH L) 0,[]))) t.Rows fun r hr=>hr;refine Aml (p:=fun _=>none) (q:=Adf Hol.valF Hol.keyF) (by kernel_rfl) rfl (by kernel_rfl) ⟨N+N2,fun j hj=>?_⟩;simp only [Adf,runAsk,kv j (by omega),h0,if_true];rw [if_pos (by rw [eshr,Nat.div_eq_of_lt hlt];rfl),if_pos (by rw [List.length_map];have:=ht.nr;omega),e1,e2];have:=hN2 j (by omega) [];rw [← hl.eq] at this;rw [this];simp only [runAsk,List.nil_append];have hok:okH (t.Rows.map (row3 (sN m.Lhs) (Aa6 (sN m.Rhs) (sN m.Lhs)) (Aa6 (2^t.Attrs.length-1) (sN m.Lhs ||| sN m.Rhs))))=mvB t (sN m.Lhs) (sN m.Rhs):=by
    rw [Bool.eq_iff_iff,Bdl,Ale];exact Bfk ht hn hl2 hr2
   rw [hok];unfold Al9 Ai9;rw [if_pos h0,if_pos hin];rfl
  ·have hge:2^t.Attrs.length<=sN m.Lhs ||| sN m.Rhs:=Nat.le_of_not_lt fun h=>hin (Ar8.2 h)
   refine Aml (p:=fun _=>none) (q:=Adf Hol.valF Hol.keyF) (by kernel_rfl) rfl (by kernel_rfl) ⟨N,fun j hj=>?_⟩;simp only [Adf,runAsk,kv j (by omega),h0,if_true];rw [if_neg (by
    rw [eshr];have:0<(sN m.Lhs ||| sN m.Rhs) / 2^t.Attrs.length:=Nat.div_pos hge p0;omega)]
   unfold Al9 Ai9;rw [if_pos h0,if_neg hin];rfl
 ·refine Aml (p:=fun _=>none) (q:=Adf Hol.valF Hol.keyF) (by kernel_rfl) rfl (by kernel_rfl) ⟨N,fun j hj=>?_⟩;simp only [Adf,runAsk,kv j (by omega)];rw [if_neg h0];unfold Al9;rw [if_neg h0];rfl
theorem Bb6 {n:Nat} (hn:n<=16):q48_.C n ((2^n-1:Nat):Int):=by
 rw [← Azb hn];exact q48_.spec
end Go.Own
