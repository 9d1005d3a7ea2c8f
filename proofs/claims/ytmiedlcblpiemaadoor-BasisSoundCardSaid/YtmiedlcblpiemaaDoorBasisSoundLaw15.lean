/- What the functions answer. No conditions. -/
import Derived.Test.YtmiedlcblpiemaaDoorBasisSoundLaw13
import Derived.Test.YtmiedlcblpiemaaDoorBasisSoundLaw14
import Derived.Test.YtmiedlcblpiemaaDoorBasisSoundLaw2
set_option linter.all false
namespace Go.Own
def ltS (x y:Int):Bool:=decide (keyS x<keyS y)
theorem Bfc:Go.Sort.SWO ltS where
 irrefl:=fun x=>by unfold ltS;simp
 trans:=fun x y z h1 h2=>by unfold ltS at *;simp only [decide_eq_true_eq] at *;omega
 ntrans:=fun x y z h1 h2=>by unfold ltS at *;simp only [decide_eq_false_iff_not] at *;omega
theorem q51_.spec {x y:Int}:q51_.C x y (cmpI x y):=by
 obtain ⟨f1,g1,k1⟩:=q61_.enter x (fun r=>r=false) (by simp);obtain ⟨f2,g2,k2⟩:=q61_.enter y (fun r=>r=false) (by simp);subst g1 g2;obtain ⟨r,h1,h2⟩:=q51_.enter x y (fun r=>r=cmpI x y) (by
  refine ⟨_,k1,_,k2,?_⟩;rw [if_neg (by decide),if_neg (by decide)];unfold cmpI
  split
  ·rfl
  ·split<;>rfl)
 rw [← h1];exact h2
theorem q26_.spec {x y:Int}:q26_.C x y (cmpI x y):=by
 obtain ⟨f1,g1,k1⟩:=q34_.enter x (fun r=>r=false) (by simp);obtain ⟨f2,g2,k2⟩:=q34_.enter y (fun r=>r=false) (by simp);subst g1 g2;obtain ⟨r,h1,h2⟩:=q26_.enter x y (fun r=>r=cmpI x y) (by
  refine ⟨_,k1,_,k2,?_⟩;rw [if_neg (by decide),if_neg (by decide)];unfold cmpI
  split
  ·rfl
  ·split<;>rfl)
 rw [← h1];exact h2
theorem q77_.two {a b:Int}:q77_.C [a,b] (if a=0 then b else a):=by
 obtain ⟨r,h1,h2⟩:=q77_.enter [a,b] (fun r=>r=if a=0 then b else a) (by
  apply q77_.L1_step;rw [if_pos (by simp)];refine ⟨a,rfl,?_⟩;by_cases ha:a=0
  ·rw [if_pos ha];apply q77_.L1_step;have e:IntKind.wrap .i64 ((0:Int)+1)=1:=by decide
   rw [e,if_pos (by simp)];refine ⟨b,rfl,?_⟩;by_cases hb:b=0
   ·rw [if_pos hb];apply q77_.L1_step;have e:IntKind.wrap .i64 ((1:Int)+1)=2:=by decide
    rw [e,if_neg (by simp),if_pos ha,hb]
   ·rw [if_neg hb,if_pos ha]
  ·rw [if_neg ha,if_neg ha])
 rw [← h1];exact h2
theorem Bei:Ajz U32 ltS q52_.C:=fun x y hx hy=>by
 obtain ⟨r,h1,h2⟩:=q52_.enter x y (fun r=>r<0↔ltS x y=true) (by
  refine ⟨_,q69_.spec hx,_,q69_.spec hy,_,q51_.spec,_,q26_.spec,_,q77_.two,?_⟩;unfold ltS;rw [decide_eq_true_eq,Bf6 hx hy];have ex:=hx.eq;have ey:=hy.eq;unfold cmpI;generalize szN (sN x)=s at *;generalize szN (sN y)=t at *;by_cases h1:(s:Int)<t
  ·rw [if_pos h1,if_neg (by decide)];omega
  ·rw [if_neg h1];by_cases h2:(t:Int)<s
   ·rw [if_pos h2,if_neg (by decide)];omega
   ·rw [if_neg h2,if_pos rfl]
    split
    ·omega
    ·split<;>omega)
 exact ⟨r,h2,h1⟩
theorem Amp:∀ (l:List Int) (a b:Int),Aat (l++[a]++[b])=if a=b then Aat (l++[a]) else Aat (l++[a])++[b]
 | [],a,b=>by
  simp only [List.nil_append,List.singleton_append,Aat]
  split<;>simp_all
 | [c],a,b=>by
  simp only [List.singleton_append,List.cons_append,List.nil_append,Aat]
  split<;>split<;>simp_all
 | c::d::r,a,b=>by
  have ih:=Amp (d::r) a b;simp only [List.cons_append,Aat] at ih ⊢;rw [ih]
  split<;>split<;>simp
theorem Aig {l:List Int} {m:Nat} {a:Int} (h:l[m]? = some a):l.take (m+1)=l.take m++[a]:=by
 rw [List.take_add_one,h];rfl
theorem An9 {l:List Int} {m:Nat} {a b:Int} (ha:l[m]? = some a) (hb:l[m+1]? = some b):Aat (l.take (m+2))=if a=b then Aat (l.take (m+1)) else Aat (l.take (m+1))++[b]:=by
 have e1:l.take (m+2)=l.take m++[a]++[b]:=by rw [Aig (m:=m+1) hb,Aig ha]
 rw [e1,Aig ha,Amp]
namespace q18_
theorem inner {l:List Int} {o:Nat} {φ:List Int×Bool->Prop} (ho:1<=o) (hol:o<l.length) (hl:l.length<4611686018427387904) (h:∀ b,φ (Aat l,b)) (n:Nat):∀ (s:List Int) (k k2:Nat),l.length-o-k2<=n->1<=k2->o+k2<=l.length->s.length=l.length->k<=o+k2-1->s.take k=Aat (l.take (o+k2))->(∀ i,o+k2-1<=i->s[i]? = l[i]?)->L2 s k o (l.length-o) k2 φ:=by
 have hend:∀ (s:List Int) (k k2:Nat),o+k2=l.length->s.length=l.length->k<=o+k2-1->s.take k=Aat (l.take (o+k2))->L2 s k o (l.length-o) k2 φ:=fun s k k2 hk2 hs hk ht=>by
  apply L2_step;refine ⟨by omega,?_⟩;rw [if_neg (by rw [List.length_take,List.length_drop];omega)];refine ⟨by omega,⟨by omega,by omega⟩,by omega,by omega,by omega,by omega,⟨by omega,by omega,by omega⟩,?_⟩;rw [Int.toNat_natCast];have e:s.take k=Aat l:=by rw [ht,List.take_of_length_le (by omega)]
  rw [e];exact h _
 induction n with
 | zero=>intro s k k2 hn h1 hk2 hs hk ht hd;exact hend s k k2 (by omega) hs hk ht
 | succ n ih=>
  intro s k k2 hn h1 hk2 hs hk ht hd;by_cases hlt:o+k2<l.length
  ·apply L2_step;refine ⟨by omega,?_⟩;rw [if_pos (by rw [List.length_take,List.length_drop];omega)];obtain ⟨b,hb⟩:∃ b,l[o+k2]? = some b:=⟨_,List.getElem?_eq_getElem hlt⟩
   obtain ⟨a,ha⟩:∃ a,l[o+k2-1]? = some a:=⟨_,List.getElem?_eq_getElem (by omega)⟩
   have e1:(o:Int)+(k2:Int)=((o+k2:Nat):Int):=by omega
   have e2:IntKind.wrap .i64 ((k2:Int)-1)=((k2-1:Nat):Int):=wx _ _ (by omega) (by omega);have e3:(o:Int)+((k2-1:Nat):Int)=((o+k2-1:Nat):Int):=by omega
   have e4:IntKind.wrap .i64 ((k2:Int)+1)=((k2+1:Nat):Int):=wx _ _ (by omega) (by omega);have e5:IntKind.wrap .i64 ((k:Int)+1)=((k+1:Nat):Int):=wx _ _ (by omega) (by omega);rw [e1,e2,e3];have hstep:=An9 (l:=l) (m:=o+k2-1) ha (by rw [show o+k2-1+1=o+k2 by omega];exact hb);rw [show o+k2-1+2=o+(k2+1) by omega,show o+k2-1+1=o+k2 by omega] at hstep;refine ⟨b,by rw [Afl,hd _ (by omega)];exact hb,⟨by omega,by omega⟩,by omega,a,by rw [Afl,hd _ (by omega)];exact ha,⟨by omega,by omega⟩,by omega,?_⟩;by_cases hab:b=a
   ·rw [if_pos hab];apply L3_step;rw [e4];rw [if_pos hab.symm] at hstep;exact ih s k (k2+1) (by omega) (by omega) (by omega) hs (by omega) (by rw [ht,hstep]) (fun i hi=>hd i (by omega))
   ·rw [if_neg hab];rw [if_neg (fun h=>hab h.symm)] at hstep;obtain ⟨c,hc⟩:∃ c,s[k]? = some c:=⟨_,List.getElem?_eq_getElem (by omega)⟩
    refine ⟨⟨by omega,by omega⟩,by omega,c,by rw [Afl];exact hc,?_⟩;apply L3_step;rw [e4,e5];have hls:lset s (k:Int) b=s.set k b:=by unfold lset;rw [Int.toNat_natCast]
    rw [hls];refine ih (s.set k b) (k+1) (k2+1) (by omega) (by omega) (by omega) (by rw [List.length_set];exact hs) (by omega) ?_ (fun i hi=>?_)
    ·rw [hstep,← ht,Aig (a:=b) (by rw [List.getElem?_set_self (by omega)])];congr 1;rw [List.take_set_of_le (Nat.le_refl k)]
    ·rw [List.getElem?_set_ne (by omega)];exact hd i (by omega)
  ·exact hend s k k2 (by omega) hs hk ht
theorem outer {l:List Int} {φ:List Int×Bool->Prop} (hl:l.length<4611686018427387904) (h:∀ b,φ (Aat l,b)) (n:Nat):∀ i,l.length-i<=n->1<=i->i<=l.length->Aat (l.take i)=l.take i->L1 l i φ:=by
 induction n with
 | zero=>
  intro i hn h1 hi hc;apply L1_step;rw [if_neg (by omega)];have e:i=l.length:=by omega
  rw [e,List.take_length] at hc;have:=h true
  rwa [hc] at this
 | succ n ih=>
  intro i hn h1 hi hc;by_cases hlt:i<l.length
  ·apply L1_step;rw [if_pos (by omega)];obtain ⟨b,hb⟩:∃ b,l[i]? = some b:=⟨_,List.getElem?_eq_getElem hlt⟩
   obtain ⟨a,ha⟩:∃ a,l[i-1]? = some a:=⟨_,List.getElem?_eq_getElem (by omega)⟩
   have e2:IntKind.wrap .i64 ((i:Int)-1)=((i-1:Nat):Int):=wx _ _ (by omega) (by omega);have e4:IntKind.wrap .i64 ((i:Int)+1)=((i+1:Nat):Int):=wx _ _ (by omega) (by omega);rw [e2,e4];have hstep:=An9 (l:=l) (m:=i-1) ha (by rw [show i-1+1=i by omega];exact hb);rw [show i-1+2=i+1 by omega,show i-1+1=i by omega] at hstep;refine ⟨b,by rw [Afl];exact hb,a,by rw [Afl];exact ha,?_⟩;by_cases hab:b=a
   ·rw [if_pos hab];rw [if_pos hab.symm] at hstep;refine ⟨by omega,⟨by omega,by omega⟩,?_⟩;rw [Int.toNat_natCast];exact inner (o:=i) h1 hlt hl h (l.length-i-1) l i 1 (Nat.le_refl _) (Nat.le_refl _) (by omega) rfl (by omega) (by rw [hstep,hc]) (fun _ _=>rfl)
   ·rw [if_neg hab];rw [if_neg (fun h=>hab h.symm)] at hstep;exact ih (i+1) (by omega) (by omega) (by omega) (by rw [hstep,hc,Aig hb])
  ·apply L1_step;rw [if_neg (by omega)];have e:i=l.length:=by omega
   rw [e,List.take_length] at hc;have:=h true
   rwa [hc] at this
theorem spec {l:List Int} (hl:l.length<4611686018427387904):∃ b,C l (Aat l,b):=by
 obtain ⟨r,⟨b,rfl⟩,h2⟩:=enter l (fun r=>∃ b,r=(Aat l,b)) (by
  split
  ·rename_i h;refine ⟨true,?_⟩
   match l,h with
   | [],_=>rfl
   | [a],_=>rfl
   | _::_::_,h=>simp at h;omega
  ·rename_i h;have:1<=l.length:=by omega
   exact outer hl (fun b=>⟨b,rfl⟩) (l.length-1) 1 (by omega) (by omega) this (by
    obtain ⟨a,r,rfl⟩:∃ a r,l=a::r:=by cases l with
     | nil=>simp at this
     | cons a r=>exact ⟨a,r,rfl⟩
    rfl))
 exact ⟨b,h2⟩
end q18_
theorem Arp {n:Nat} (hn:n<=16):2^n<=65536/\0<2^n:=⟨Nat.pow_le_pow_right (n:=2) (by omega) hn,Nat.pow_pos (by omega)⟩
def keyR (t:api_Table) (m i:Nat):ByteArray:=Abw (pick ((t.Rows[i]?).map (·.Values) |>.getD []) m)
theorem Ae9 {t:api_Table} {m i:Nat} (hi:i<t.Rows.length):keyR t m i=Abw (pick (t.Rows[i]).Values m):=by
 unfold keyR;rw [List.getElem?_eq_getElem hi];rfl
section
variable {t:api_Table}
theorem Bfk {m i k:Nat} (ht:TV t) (hm:m<2^32) (hi:i<t.Rows.length) (hk:k<t.Rows.length):pick (t.Rows[i]).Values m=pick (t.Rows[k]).Values m↔∀ a,m.testBit a=true->EqA t i k a:=by
 rw [← Aho ht hm hi hk];unfold Afy;rw [List.getElem?_map,List.getElem?_map,List.getElem?_eq_getElem hi,List.getElem?_eq_getElem hk];simp
theorem Ali {m i:Nat} (ht:TV t) (hn:TNum t) (hi:i<t.Rows.length):∀ v∈pick (t.Rows[i]).Values m,Aas v=true/\Ahu v:=fun v hv=>
 ⟨ht.val (List.getElem_mem hi) v (Ame v hv),hn _ (List.getElem_mem hi) v (Ame v hv)⟩
theorem Asy {m i k:Nat} (ht:TV t) (hi:i<t.Rows.length) (hk:k<t.Rows.length):(pick (t.Rows[i]).Values m).length=(pick (t.Rows[k]).Values m).length:=
 Bb1 (by rw [ht.len (List.getElem_mem hi),ht.len (List.getElem_mem hk)])
theorem Ai8 {m i k:Nat} (ht:TV t) (hn:TNum t) (hm:m<2^32) (hi:i<t.Rows.length) (hk:k<t.Rows.length):keyR t m i=keyR t m k↔∀ a,m.testBit a=true->EqA t i k a:=by
 rw [Ae9 hi,Ae9 hk,Au0 (Asy ht hi hk) (Ali ht hn hi) (Ali ht hn hk),Bfk ht hm hi hk]
theorem Anm {l m:List api_Value}:Abw l++Abw m=Abw (l++m):=by
 rw [← Aj6,Aoi];unfold Abw;rw [Asi];simp [bstr,Af4,List.flatMap_append]
theorem Bf7 {p q i k:Nat} (ht:TV t) (hn:TNum t) (hi:i<t.Rows.length) (hk:k<t.Rows.length) (h:keyR t p i++keyR t q i=keyR t p k++keyR t q k):keyR t p i=keyR t p k/\keyR t q i=keyR t q k:=by
 rw [Ae9 hi,Ae9 hi,Ae9 hk,Ae9 hk] at *;rw [Anm,Anm] at h;have l1:=Asy (m:=p) ht hi hk;have l2:=Asy (m:=q) ht hi hk;have:=(Au0 (by rw [List.length_append,List.length_append,l1,l2]) (fun v hv=>by
  rcases List.mem_append.1 hv with hv | hv
  ·exact Ali ht hn hi v hv
  ·exact Ali ht hn hi v hv) (fun v hv=>by
  rcases List.mem_append.1 hv with hv | hv
  ·exact Ali ht hn hk v hv
  ·exact Ali ht hn hk v hv)).1 h
 obtain ⟨h1,h2⟩:=List.append_inj this l1;rw [h1,h2];exact ⟨rfl,rfl⟩
def grpK (t:api_Table) (l:Nat) (s:ByteArray):List Nat:=(List.range t.Rows.length).filter fun i=>keyR t l i == s
theorem Afh {l i:Nat} {s:ByteArray}:i∈grpK t l s↔i<t.Rows.length/\keyR t l i=s:=by
 unfold grpK;rw [List.mem_filter,List.mem_range,Acr]
def okG (t:api_Table) (l p q:Nat) (s:ByteArray):Prop:=(dd ((grpK t l s).map (keyR t p))).length*(dd ((grpK t l s).map (keyR t q))).length=(dd ((grpK t l s).map fun i=>keyR t p i++keyR t q i)).length
theorem Bfg {l r:Nat} (ht:TV t) (hn:TNum t) (hl:l<2^t.Attrs.length) (hr:r<2^t.Attrs.length):(∀ i,i<t.Rows.length->okG t l (Aa6 r l) (Aa6 (2^t.Attrs.length-1) (l ||| r)) (keyR t l i))↔MvP t l r:=by
 have na:=ht.na;have hp:=Arp na;have hR:Aa6 r l<2^32:=Nat.lt_of_le_of_lt Ae0 (by omega);have hS:Aa6 (2^t.Attrs.length-1) (l ||| r)<2^32:=Nat.lt_of_le_of_lt Ae0 (by omega);have all:∀ s,okG t l (Aa6 r l) (Aa6 (2^t.Attrs.length-1) (l ||| r)) s↔∀ x∈grpK t l s,∀ y∈grpK t l s,∃ z∈grpK t l s,keyR t (Aa6 r l) z=keyR t (Aa6 r l) x/\keyR t (Aa6 (2^t.Attrs.length-1) (l ||| r)) z=keyR t (Aa6 (2^t.Attrs.length-1) (l ||| r)) y:=fun s=>
  Bb6 fun x hx y hy h=>Bf7 ht hn (Afh.1 hx).1 (Afh.1 hy).1 h
 have bitS:∀ a,(Aa6 (2^t.Attrs.length-1) (l ||| r)).testBit a=true↔a<t.Attrs.length/\(l ||| r).testBit a=false:=fun a=>by
  rw [Aaw,Nat.testBit_two_pow_sub_one,Bool.and_eq_true,decide_eq_true_eq,Bool.not_eq_true']
 constructor
 ·intro h i k hi hk he;have hki:=(Ai8 ht hn (show l<2^32 by omega) hi hk).2 he;obtain ⟨j,hj,e1,e2⟩:=(all _).1 (h i hi) i (Afh.2 ⟨hi,rfl⟩) k (Afh.2 ⟨hk,hki.symm⟩);obtain ⟨hjl,hjk⟩:=Afh.1 hj;refine ⟨j,hjl,fun a ha=>?_,fun a ha hb=>(Ai8 ht hn hS hjl hk).1 e2 a ((bitS a).2 ⟨ha,hb⟩)⟩;by_cases hla:l.testBit a=true
  ·exact (Ai8 ht hn (show l<2^32 by omega) hjl hi).1 hjk a hla
  ·refine (Ai8 ht hn hR hjl hi).1 e1 a ?_;rw [Nat.testBit_or,Bool.or_eq_true] at ha;rw [Aaw,(ha.resolve_left hla)];simpa using hla
 ·intro h i hi;refine (all _).2 fun x hx y hy=>?_;obtain ⟨hxl,hxk⟩:=Afh.1 hx;obtain ⟨hyl,hyk⟩:=Afh.1 hy;obtain ⟨j,hjl,e1,e2⟩:=h x y hxl hyl ((Ai8 ht hn (show l<2^32 by omega) hxl hyl).1 (hxk.trans hyk.symm));refine ⟨j,Afh.2 ⟨hjl,?_⟩,(Ai8 ht hn hR hjl hxl).2 fun a ha=>e1 a ?_,(Ai8 ht hn hS hjl hyl).2 fun a ha=>?_⟩
  ·rw [← hxk];exact (Ai8 ht hn (show l<2^32 by omega) hjl hxl).2 fun a ha=>e1 a (by rw [Nat.testBit_or,ha];rfl)
  ·rw [Aaw,Bool.and_eq_true] at ha;rw [Nat.testBit_or,ha.1,Bool.or_true]
  ·obtain ⟨h1,h2⟩:=(bitS a).1 ha;exact e2 a h1 h2
end
theorem Awp {n:Nat} (hn:n<=16):IntKind.wrap .u32 (shlw .u32 1 (n:Int)-1)=((2^n-1:Nat):Int):=by
 have hp:=Arp hn;have e:shlw .u32 1 (n:Int)=((2^n:Nat):Int):=Aq8 (k:=.u32) (by simp only [top];omega);rw [e,show (((2^n:Nat):Int)-1)=((2^n-1:Nat):Int) by omega];exact Ae3 (k:=.u32) (by simp only [top];omega)
theorem Az7 {n:Nat} (hn:n<=16):Acz n=2^n-1:=by unfold Acz;rw [Nat.min_eq_left (by omega)]
theorem Any {E:Env} {f:Nat} {p:List D->Option (D×List D)} {q:List D->Ask} {ds:List D} {r:D} {outs:List D} (h1:E.prim f=some p) (h2:p ds=none) (h3:E.hand f=some q) (h4:∃ N,∀ n,N<=n->runAsk (Ab6 E n) (q ds)=some (r,outs)):Ret E f ds r outs:=by
 obtain ⟨N,hN⟩:=h4;refine ⟨N+1,fun m hm=>?_⟩;obtain ⟨k,rfl⟩:∃ k,m=k+1:=⟨m-1,by omega⟩
 simp only [Ab6,h1,h2,h3];exact hN k (by omega)
theorem Bd7 {v:api_Value}:keyW v=Abw [v]:=by
 unfold keyW Ak4 Abw bstr Af4;simp [b8]
theorem Ara {l:List api_Value}:(Abw l).size=(Af4 l).length:=by
 show (Abw l).data.size=_;unfold Abw bstr;rw [List.size_toArray,List.length_map]
theorem Anl:∀ {l:List api_Value},(∀ v∈l,Aas v=true)->(Af4 l).length<=403*l.length
 | [],_=>by simp [Af4]
 | a::l,h=>by
  have h1:=Anl (l:=l) fun v hv=>h v (by simp [hv]);have h2:=Aw8 (h a (by simp));simp only [Af4,List.flatMap_cons,List.length_append,List.length_cons] at h1 ⊢;omega
theorem Awb {l:List api_Value} {n:Nat} (h:∀ v∈l,Aas v=true):(Abw (pick l n)).size<=12896:=by
 rw [Ara];have h1:=Anl (l:=pick l n) fun v hv=>h v (Ame v hv);have h2:=Awo (l:=l) (n:=n);omega
theorem t32H {a:Nat} (h:a<2^32):a<2^top .u32:=by simpa [top] using h
namespace q79_
theorem spec {t:api_Table} (ht:TV t) {r:api_Row} (hr:r∈t.Rows) {n:Nat} (hn:n<2^t.Attrs.length):C r n (Abw (pick r.Values n)):=by
 have hn32:n<2^32:=Nat.lt_of_lt_of_le hn (Nat.pow_le_pow_right (by decide) (by have:=ht.na;omega));have hl:=Afr (n:=n);obtain ⟨q,h1,h2⟩:=enter r n (fun q=>q=Abw (pick r.Values n)) (by
  refine ⟨_,q47_.spec hn32,?_⟩;have loop:∀ j,j<=(Aar n).length->L1 r (Abw (((Aar n).take j).filterMap fun i=>r.Values[i]?)) ((Aar n).map fun (i:Nat)=>(i:Int)) (j:Int) fun q=>q=Abw (pick r.Values n):=by
   refine down ?_ ?_
   ·apply L1_step;rw [List.length_map,if_neg (by omega),List.take_length];rfl
   ·intro j hj h;apply L1_step;rw [List.length_map,if_pos (by omega)];have hget:=List.getElem?_eq_getElem hj;generalize (Aar n)[j]=i at hget;have hi:=(Abi hn32).1 (List.mem_of_getElem? hget);have hilt:i<t.Attrs.length:=by
     false_or_by_contra
     rename_i hh;rw [Nat.testBit_lt_two_pow (Nat.lt_of_lt_of_le hn (Nat.pow_le_pow_right (by decide) (by omega)))] at hi;cases hi
    have hrl:=ht.len hr;have hv:=List.getElem?_eq_getElem (l:=r.Values) (i:=i) (by omega);generalize r.Values[i]'(by omega)=v at hv;have hval:=ht.val hr v (List.mem_of_getElem? hv);refine ⟨(i:Int),by rw [Afl,List.getElem?_map,hget];rfl,v,Abb hv,(keyW v,0),q78_.spec hval,?_,?_⟩
    ·have a1:=Anl (l:=((Aar n).take j).filterMap fun i=>r.Values[i]?) (fun v hv=>by
      obtain ⟨i,_,hi⟩:=List.mem_filterMap.1 hv
      exact ht.val hr v (List.mem_of_getElem? hi))
     have a2:(((Aar n).take j).filterMap fun i=>r.Values[i]?).length<=32:=Nat.le_trans (List.length_filterMap_le _ _) (by rw [List.length_take];omega);have a3:=Aw8 hval;rw [Ara,Bbb];omega
    ·rw [Aa9 (by omega)];have e:(((Aar n).take (j+1)).filterMap fun i=>r.Values[i]?)=(((Aar n).take j).filterMap fun i=>r.Values[i]?)++[v]:=by
      rw [List.take_add_one,hget,List.filterMap_append];simp [hv]
     rw [e] at h;simp only [Bd7,Anm];exact h
  have:=loop 0 (Nat.zero_le _)
  simpa [Abw,Af4,bstr] using this)
 rw [← h1];exact h2
end q79_
def row3 (l p q:Nat) (r:api_Row):Key3:=(Abw (pick r.Values l),Abw (pick r.Values p),Abw (pick r.Values q))
theorem Avf {t:api_Table} (ht:TV t) {l p q:Nat} (hl:l<2^t.Attrs.length) (hp:p<2^t.Attrs.length) (hq:q<2^t.Attrs.length) (k:List Key3->Ask):∀ (rs:List api_Row),(∀ r∈rs,r∈t.Rows)->∃ N,∀ m,N<=m->∀ acc,runAsk (Ab6 env m) (Ago Hol.keyF l p q k (rs.map Aa2) acc)=runAsk (Ab6 env m) (k (acc++rs.map (row3 l p q)))
 | [],_=>⟨0,fun m _ acc=>by simp [Ago]⟩
 | r::rs,h=>by
  obtain ⟨N,hN⟩:=Avf ht hl hp hq k rs fun r hr=>h r (by simp [hr]);have hr:=h r (by simp);obtain ⟨N1,h1⟩:=q79_.spec ht hr hl;obtain ⟨N2,h2⟩:=q79_.spec ht hr hp;obtain ⟨N3,h3⟩:=q79_.spec ht hr hq;refine ⟨N+N1+N2+N3,fun m hm acc=>?_⟩;have k1:Ab6 env m Hol.keyF [.agg [.lit (.int .i64 r.ID),.sl (r.Values.map Aa1)],.lit (.int .u32 l)]=some (.lit (.string (Abw (pick r.Values l))),[]):=h1 m (by omega);have k2:Ab6 env m Hol.keyF [.agg [.lit (.int .i64 r.ID),.sl (r.Values.map Aa1)],.lit (.int .u32 p)]=some (.lit (.string (Abw (pick r.Values p))),[]):=h2 m (by omega);have k3:Ab6 env m Hol.keyF [.agg [.lit (.int .i64 r.ID),.sl (r.Values.map Aa1)],.lit (.int .u32 q)]=some (.lit (.string (Abw (pick r.Values q))),[]):=h3 m (by omega);have z1:=Awb (l:=r.Values) (n:=p) fun v hv=>ht.val hr v hv;have z2:=Awb (l:=r.Values) (n:=q) fun v hv=>ht.val hr v hv;have e:(r::rs).map Aa2=[.lit (.int .i64 r.ID),.sl (r.Values.map Aa1)]::rs.map Aa2:=rfl;rw [e];simp only [Ago,runAsk,k1,k2,k3];rw [if_pos (by omega),hN m (by omega)];simp [row3]
theorem Bdh {t:api_Table} {l p q:Nat}:okH (t.Rows.map (row3 l p q))=true↔∀ i,i<t.Rows.length->okG t l p q (keyR t l i):=by
 have e:t.Rows.map (row3 l p q)=(List.range t.Rows.length).map fun i=>(keyR t l i,keyR t p i,keyR t q i):=by
  apply List.ext_getElem
  ·simp
  ·intro i h1 h2;simp only [List.getElem_map,List.getElem_range];rw [List.length_map] at h1;rw [Ae9 h1,Ae9 h1,Ae9 h1];rfl
 have eg:∀ s,grpH (t.Rows.map (row3 l p q)) s=(grpK t l s).map fun i=>(keyR t l i,keyR t p i,keyR t q i):=fun s=>by
  rw [e];unfold grpH grpK;rw [List.filter_map];exact congrArg _ (List.filter_congr fun i _=>Eq.refl (keyR t l i == s))
 have eo:∀ s,okK (t.Rows.map (row3 l p q)) s↔okG t l p q s:=fun s=>by
  unfold okK set1 set2 set3 okG;rw [eg];simp only [List.map_map];exact Iff.rfl
 rw [Asx];constructor
 ·intro h i hi;rw [Ae9 hi];have hm:=h (row3 l p q t.Rows[i]) (List.mem_map.2 ⟨t.Rows[i],List.getElem_mem hi,rfl⟩);simp only [row3] at hm;exact (eo _).1 hm
 ·intro h x hx;obtain ⟨r,hr,rfl⟩:=List.mem_map.1 hx;obtain ⟨i,hi,rfl⟩:=List.getElem_of_mem hr;have:=h i hi;rw [Ae9 hi] at this;simp only [row3];exact (eo _).2 this
noncomputable def Al8 (t:api_Table) (m:api_MVD):Bool×Int:=if Aev t=0 then Ai7 t m else (false,Aev t)
theorem q74_.spec {t:api_Table} (hn:TNum t) {m:api_MVD} (hl:U32 m.Lhs) (hr:U32 m.Rhs):q74_.C t m (Al8 t m):=by
 obtain ⟨N,hN⟩:=q72_.spec (t:=t);have kv:∀ j,N<=j->Ab6 env j Hol.valF [.agg [.lit (.string t.Name),.sl (t.Attrs.map eS),.sl (t.Rows.map Aa2)]]=some (.lit (.int .i64 (Aev t)),[]):=fun j hj=>hN j hj;by_cases h0:Aev t=0
 ·have ht:=Ami.1 h0;have na:=ht.na;have pw:=Arp na;have p16:2^t.Attrs.length<=2^16:=Nat.pow_le_pow_right (by decide) na;have p0:=Nat.two_pow_pos t.Attrs.length;have eor:=orI hl hr;have hor:sN m.Lhs ||| sN m.Rhs<2^32:=Nat.or_lt_two_pow hl.lt hr.lt
  have eshr:shrw .u32 (bOr .u32 m.Lhs m.Rhs) ((t.Attrs.map eS).length:Int)=(((sN m.Lhs ||| sN m.Rhs) / 2^t.Attrs.length:Nat):Int):=by
   rw [List.length_map,eor];exact Ae2 (t32H hor)
  by_cases hin:inU t.Attrs.length m.Lhs m.Rhs=true
  ·have hlt:=Ar3.1 hin;have hl2:sN m.Lhs<2^t.Attrs.length:=Nat.lt_of_le_of_lt Nat.left_le_or hlt;have hr2:sN m.Rhs<2^t.Attrs.length:=Nat.lt_of_le_of_lt Nat.right_le_or hlt;have hp2:Aa6 (sN m.Rhs) (sN m.Lhs)<2^t.Attrs.length:=Nat.lt_of_le_of_lt Ae0 hr2;have hq2:Aa6 (2^t.Attrs.length-1) (sN m.Lhs ||| sN m.Rhs)<2^t.Attrs.length:=Nat.lt_of_le_of_lt Ae0 (by omega);have e1:Aeu m.Lhs m.Rhs=((Aa6 (sN m.Rhs) (sN m.Lhs):Nat):Int):=by
    unfold Aeu
    conv=>lhs;rw [hl.eq,hr.eq]
    exact Acl hr.top hl.top
   have e2:Agi ((t.Attrs.map eS).length:Int) m.Lhs m.Rhs=((Aa6 (2^t.Attrs.length-1) (sN m.Lhs ||| sN m.Rhs):Nat):Int):=by
    unfold Agi;rw [List.length_map,eor,Awp na];exact Acl (t32H (by omega)) (t32H hor)
   obtain ⟨N2,hN2⟩:=Avf ht hl2 hp2 hq2 (fun L=>.ret (some (resH (okH L) 0,[]))) t.Rows fun r hr=>hr;refine Any (p:=fun _=>none) (q:=Adb Hol.valF Hol.keyF) (by kernel_rfl) rfl (by kernel_rfl) ⟨N+N2,fun j hj=>?_⟩;simp only [Adb,runAsk,kv j (by omega),h0,if_true];rw [if_pos (by rw [eshr,Nat.div_eq_of_lt hlt];rfl),if_pos (by rw [List.length_map];have:=ht.nr;omega),e1,e2];have:=hN2 j (by omega) [];rw [← hl.eq] at this;rw [this];simp only [runAsk,List.nil_append];have hok:okH (t.Rows.map (row3 (sN m.Lhs) (Aa6 (sN m.Rhs) (sN m.Lhs)) (Aa6 (2^t.Attrs.length-1) (sN m.Lhs ||| sN m.Rhs))))=mvB t (sN m.Lhs) (sN m.Rhs):=by
    rw [Bool.eq_iff_iff,Bdh,Ald];exact Bfg ht hn hl2 hr2
   rw [hok];unfold Al8 Ai7;rw [if_pos h0,if_pos hin];rfl
  ·have hge:2^t.Attrs.length<=sN m.Lhs ||| sN m.Rhs:=Nat.le_of_not_lt fun h=>hin (Ar3.2 h)
   refine Any (p:=fun _=>none) (q:=Adb Hol.valF Hol.keyF) (by kernel_rfl) rfl (by kernel_rfl) ⟨N,fun j hj=>?_⟩;simp only [Adb,runAsk,kv j (by omega),h0,if_true];rw [if_neg (by
    rw [eshr];have:0<(sN m.Lhs ||| sN m.Rhs) / 2^t.Attrs.length:=Nat.div_pos hge p0
    omega)]
   unfold Al8 Ai7;rw [if_pos h0,if_neg hin];rfl
 ·refine Any (p:=fun _=>none) (q:=Adb Hol.valF Hol.keyF) (by kernel_rfl) rfl (by kernel_rfl) ⟨N,fun j hj=>?_⟩;simp only [Adb,runAsk,kv j (by omega)];rw [if_neg h0];unfold Al8;rw [if_neg h0];rfl
def lN (R:List Nat):List Int:=R.map fun (m:Nat)=>(m:Int)
theorem Arb {R:List Nat}:(lN R).length=R.length:=by simp [lN]
def fN (d:api_FD):Nat×Nat:=(sN d.Lhs,sN d.Rhs)
def mN (d:api_MVD):Nat×Nat:=(sN d.Lhs,sN d.Rhs)
theorem Adw {a:Nat} (h:a<2^32):a<2^top .u32:=by simpa [top] using h
structure Grows (m:Nat×Nat) (I:List Nat->Prop):Prop where
 lt:∀ R,I R->∀ r∈R,r<2^32
 len:∀ R,I R->R.length<=64
 add:∀ R r s,I R->r∈R->s∈R->Aqh m.1 r s->mixR m r s ∉ R->I (R++[mixR m r s])
def Bfu (fds:List (Nat×Nat)) (bs:List Nat) (rest live:Nat) (R:List Nat):Prop:=R.Nodup/\CI fds bs rest live fun u=>u∈R
section
variable {fds mvds:List (Nat×Nat)} {bs:List Nat} {rest live:Nat}
end
open Go.Sort
section
variable {p:Int->Prop} {lt:Int->Int->Bool} (hC:Ajz p lt q52_.C) (hS:SWO lt)
include hC hS
theorem q9_.few {l:List Int} (hl:l.length<=12) (hp:∀ x∈l,p x):∃ r,q9_.C l r/\r.Perm l/\r.Pairwise (fun a b=>lt b a=false):=by
 have hsz:SzA l.toArray:=by unfold SzA;simp;omega
 have hpa:AllA p l.toArray:=fun i hi=>by
  have hi':i<l.length:=by simpa using hi
  rw [getElem!_pos l.toArray i hi];exact hp _ (by simp)
 obtain ⟨r,⟨R,rfl,h1,h2⟩,h3⟩:=q9_.enter l (fun r=>∃ R:Array Int,r=R.toList/\PermIn 0 l.length l.toArray R/\SortedIn lt 0 l.length R) (by
  have e:IntKind.wrap .u64 (l.length:Int)=(l.length:Int):=by
   rw [show (IntKind.wrap .u64 (l.length:Int))=(l.length:Int) % 18446744073709551616 from by simp [IntKind.wrap,IntKind.bits,IntKind.signed]];omega
  rw [e];obtain ⟨s,c,_,_⟩:=q62_.spec (x:=l.length) (by omega);refine ⟨_,c,?_⟩;obtain ⟨r,⟨R,rfl,q1,q2⟩,c2⟩:=q14_.enter 0 (l.length:Int) s l (fun r=>∃ R:Array Int,r=R.toList/\PermIn 0 l.length l.toArray R/\SortedIn lt 0 l.length R) (by
   apply q14_.L1_step;rw [wx ((l.length:Int)-0) l.length (by omega) (by omega),if_pos (by omega)];have hi:=insertionSort_holds (lt:=lt) hS l.toArray 0 l.length (Nat.zero_le _) (by simp);have hc:=q5_.spec hC (a:=0) (b:=l.length) (d:=l.toArray) (Nat.zero_le _) (by simp) hpa hsz
   exact ⟨_,hc,_,rfl,hi.1,hi.2⟩)
  exact ⟨_,c2,R,rfl,q1,q2⟩)
 refine ⟨_,h3,?_,?_⟩
 ·have:=h1.2.2;have hz:R.size=l.length:=by simpa using h1.1
  have e1:(R.extract 0 l.length).toList=R.toList:=by
   rw [← hz,Array.extract_size]
  have e2:(l.toArray.extract 0 l.length).toList=l:=by simp
  rwa [e1,e2] at this
 ·have hz:R.size=l.length:=by simpa using h1.1
  rw [List.pairwise_iff_getElem];intro i j hi hj hij;have hi':i<R.size:=by simpa using hi
  have hj':j<R.size:=by simpa using hj
  have:=h2 i j (by omega) hij (by omega);rw [getElem!_pos R i hi',getElem!_pos R j hj'] at this;simpa using this
end
theorem q63_.few {l:List Int} (hl:l.length<=12) (hu:AllU l):q63_.C l (ordL l):=by
 obtain ⟨r,h1,h2⟩:=q63_.enter l (fun r=>r=ordL l) (by
  obtain ⟨s,c,hp,ha⟩:=q9_.few Bei Bfc (l:=l) hl hu;have hlen:=hp.length_eq;obtain ⟨b,c2⟩:=q18_.spec (l:=s) (by omega);refine ⟨by omega,s,c,_,c2,?_⟩;have hus:AllU s:=fun x hx=>hu x (hp.mem_iff.1 hx);refine Bfj hu (Aj8 hus (ha.imp fun h=>?_)) fun y=>by rw [Agv,hp.mem_iff]
  unfold ltS at h;simp only [decide_eq_false_iff_not] at h
  omega)
 rw [← h1];exact h2
theorem Bds {l r:Int} (hl:U32 l) (hr:U32 r) {b:Nat} (hb:b<2^32):splI l r (b:Int)=Abc (sN l,sN r) b:=by
 have e1:bAnd .u32 (b:Int) l=((b &&& sN l:Nat):Int):=by
  conv=>lhs;rw [hl.eq]
  exact Ady (Adw hb) hl.top
 have e2:bAnd .u32 (b:Int) r=((b &&& sN r:Nat):Int):=by
  conv=>lhs;rw [hr.eq]
  exact Ady (Adw hb) hr.top
 have e3:Aag .u32 (b:Int) r=((Aa6 b (sN r):Nat):Int):=by
  conv=>lhs;rw [hr.eq]
  exact Acl (Adw hb) hr.top
 have z:∀ x:Nat,(((x:Nat):Int) == 0)=decide (x=0):=fun x=>by
  rw [Bool.eq_iff_iff,beq_iff_eq,decide_eq_true_eq];omega
 have z2:∀ x:Nat,(((x:Nat):Int) != 0)=decide (x≠0):=fun x=>by
  rw [Bool.eq_iff_iff,bne_iff_ne,decide_eq_true_eq];omega
 unfold splI Abc;rw [e1,e2,e3,z,z2,z2]
theorem Ank {m:Int×Int} (hl:U32 m.1) (hr:U32 m.2):∀ (S P N:List Nat) (ag:Bool),(∀ b∈S,b<2^32)->P.length+S.length+N.length+S.length<=1000000 ->
  Ag9 m.1 m.2 S.length P.length (lN (P++S++N),ag)=some (lN (P++S.map (fun b=>if Abc (sN m.1,sN m.2) b=true then b &&& sN m.2 else b)++(N++(S.filter (Abc (sN m.1,sN m.2))).map fun b=>Aa6 b (sN m.2))),ag || S.any (Abc (sN m.1,sN m.2)))
 | [],P,N,ag,_,_=>by simp [Ag9]
 | b::S,P,N,ag,hS,hlen=>by
  have hb:=hS b (by simp);simp only [List.length_cons] at hlen;have hget:(lN (P++(b::S)++N))[P.length]? = some (b:Int):=by
   unfold lN;rw [List.getElem?_map,List.append_assoc,List.getElem?_append_right (Nat.le_refl _)];simp
  simp only [List.length_cons,Ag9,hget,Bds hl hr hb];cases hs:Abc (sN m.1,sN m.2) b with
  | false=>
   simp only [Bool.false_eq_true,if_false];have:=Ank hl hr S (P++[b]) N ag (fun c hc=>hS c (by simp [hc])) (by simp;omega);simp only [List.length_append,List.length_singleton,List.append_assoc,List.singleton_append] at this ⊢;rw [this];simp [hs]
  | true=>
   have e2:bAnd .u32 (b:Int) m.2=((b &&& sN m.2:Nat):Int):=by
    conv=>lhs;rw [hr.eq]
    exact Ady (Adw hb) hr.top
   have e3:Aag .u32 (b:Int) m.2=((Aa6 b (sN m.2):Nat):Int):=by
    conv=>lhs;rw [hr.eq]
    exact Acl (Adw hb) hr.top
   simp only [if_true];rw [if_pos (by rw [Arb];simp;omega),e2,e3];have hset:(lN (P++(b::S)++N)).set P.length ((b &&& sN m.2:Nat):Int)++[((Aa6 b (sN m.2):Nat):Int)]=lN ((P++[b &&& sN m.2])++S++(N++[Aa6 b (sN m.2)])):=by
    unfold lN;simp
   rw [hset];have:=Ank hl hr S (P++[b &&& sN m.2]) (N++[Aa6 b (sN m.2)]) true (fun c hc=>hS c (by simp [hc])) (by simp;omega);simp only [List.length_append,List.length_singleton,List.append_assoc,List.singleton_append] at this ⊢;rw [this];simp [hs]
theorem BPart.lt {rest n:Nat} {bs:List Nat} (h:BPart rest bs) (hr:rest<2^n) {b:Nat} (hb:b∈bs):b<2^n:=Adr.2 fun i hi=>Adr.1 hr i ((h.all i).2 ⟨b,hb,hi⟩)
theorem Awn {rest:Nat} (hr:rest<2^32):∀ {mv:List (Int×Int)},(∀ m∈mv,U32 m.1/\U32 m.2)->∀ {L:List Nat} (ag:Bool),BPart rest L ->
  Ais mv (lN L,ag)=some (lN (Adt (mv.map fun m=>(sN m.1,sN m.2)) L),ag || decide (L.length<(Adt (mv.map fun m=>(sN m.1,sN m.2)) L).length))
 | [],_,L,ag,_=>by simp [Ais,Adt]
 | m::mv,hm,L,ag,hp=>by
  have hlen:=hp.len hr;have h1:=Ank (m:=m) (hm m (by simp)).1 (hm m (by simp)).2 L [] [] ag (fun b hb=>hp.lt hr hb) (by simp;omega);simp only [List.nil_append,List.append_nil,List.length_nil] at h1;have h2:=Awn hr (fun m' h'=>hm m' (List.mem_cons_of_mem _ h')) (L:=Abm (sN m.1,sN m.2) L) (ag || L.any (Abc (sN m.1,sN m.2))) (hp.split _);simp only [Ais,Arb];rw [if_pos (by omega),h1];show Ais mv (lN (Abm (sN m.1,sN m.2) L),_)=_;rw [h2];simp only [List.map_cons,Adt,zJ,Prod.mk.injEq,true_and];have h3:=Ajp (m:=(sN m.1,sN m.2)) (bs:=L);have h4:=Aki (mv:=mv.map fun m=>(sN m.1,sN m.2)) (bs:=Abm (sN m.1,sN m.2) L);rw [Bool.or_assoc];congr 1;rw [Bool.eq_iff_iff,Bool.or_eq_true,decide_eq_true_eq,decide_eq_true_eq];constructor
  ·rintro (h | h)
   ·obtain ⟨b,hb,hs⟩:=List.any_eq_true.1 h;have:0<(L.filter (Abc (sN m.1,sN m.2))).length:=List.length_pos_of_mem (List.mem_filter.2 ⟨hb,hs⟩);omega
   ·omega
  ·intro h;by_cases h0:(L.filter (Abc (sN m.1,sN m.2))).length=0
   ·right;omega
   ·left;obtain ⟨b,hb⟩:=List.exists_mem_of_length_pos (Nat.pos_of_ne_zero h0);obtain ⟨hb,hs⟩:=List.mem_filter.1 hb;exact List.any_eq_true.2 ⟨b,hb,hs⟩
theorem Art {rest:Nat} (hr:rest<2^32) {mv:List (Int×Int)} (hm:∀ m∈mv,U32 m.1/\U32 m.2):∀ {k:Nat} {L:List Nat},BPart rest L->32<k+L.length->Ah6 mv k (lN L)=some (lN (Af1 (mv.map fun m=>(sN m.1,sN m.2)) k L))
 | 0,L,hp,hk=>absurd (hp.len hr) (by omega)
 | k+1,L,hp,hk=>by
  have h1:=Aki (mv:=mv.map fun m=>(sN m.1,sN m.2)) (bs:=L);simp only [Ah6,Awn hr hm false hp,Af1,Bool.false_or,decide_eq_true_eq];by_cases he:(Adt (mv.map fun m=>(sN m.1,sN m.2)) L).length=L.length
  ·rw [if_pos he,if_neg (by omega)]
  ·rw [if_neg he,if_pos (by omega)];exact Art hr hm hp.pass (by omega)
theorem Azx {n x:Nat} (hn:n<=16) (hx:x<2^32):Ahc (n:Int) (x:Int)=lN (Ajq (Aa6 (2^n-1) x)):=by
 have h1:=Awp hn;have h2:2^n-1<2^32:=Nat.lt_of_lt_of_le (Nat.sub_lt (Nat.pow_pos (by omega)) (by omega)) (Nat.pow_le_pow_right (by omega) (by omega));have e:Ait (n:Int) (x:Int)=((Aa6 (2^n-1) x:Nat):Int):=by
  unfold Ait;rw [h1];exact Acl (Adw h2) (Adw hx)
 unfold Ahc Ajq;rw [e];by_cases h0:Aa6 (2^n-1) x=0
 ·rw [if_pos h0,if_neg (by simp [h0])];rfl
 ·rw [if_neg h0,if_pos (by simp;omega)];rfl
theorem Bdo {E:Env} {f:Nat} {p:List D->Option (D×List D)} {q:List D->Ask} {ds:List D} {r:D} {outs:List D} (h1:E.prim f=some p) (h2:p ds=none) (h3:E.hand f=some q) (h4:∃ N,∀ n,N<=n->runAsk (Ab6 E n) (q ds)=some (r,outs)):Ret E f ds r outs:=by
 obtain ⟨N,hN⟩:=h4;refine ⟨N+1,fun m hm=>?_⟩;obtain ⟨k,rfl⟩:∃ k,m=k+1:=⟨m-1,by omega⟩
 simp only [Ab6,h1,h2,h3];exact hN k (by omega)
def blkB (mv:List (Nat×Nat)) (rest:Nat):List Nat:=Af1 mv 40 (Ajq rest)
theorem q70_.spec {n x:Nat} {mv:List api_MVD} (hn6:n<=6) (hx:x<2^32) (hm:Agf mv) (hlen:mv.length<1000000):q70_.C n mv x (ordL (lN (blkB (mv.map mN) (Aa6 (2^n-1) x)))):=by
 have hn:n<=16:=by omega
 have h2:2^n-1<2^32:=Nat.lt_of_lt_of_le (Nat.sub_lt (Nat.pow_pos (by omega)) (by omega)) (Nat.pow_le_pow_right (by omega) (by omega));have hrest6:Aa6 (2^n-1) x<2^6:=by
  have h6:2^n<=2^6:=Nat.pow_le_pow_right (by decide) hn6;have h0:=Nat.two_pow_pos n;exact Nat.lt_of_le_of_lt Ae0 (by omega)
 have hrest:Aa6 (2^n-1) x<2^32:=Nat.lt_of_le_of_lt Ae0 h2
 let mi:List (Int×Int):=mv.map fun d=>(d.Lhs,d.Rhs)
 have hmi:mi.map (fun m=>(sN m.1,sN m.2))=mv.map mN:=by simp only [mi,List.map_map];rfl
 have henc:mv.map Aa3=mi.map eMv:=by simp only [mi,List.map_map];rfl
 have hr:Ah6 mi 40 (Ahc n x)=some (lN (blkB (mv.map mN) (Aa6 (2^n-1) x))):=by
  rw [Azx hn hx,Art hrest (by intro m hm';obtain ⟨d,hd,rfl⟩:=List.mem_map.1 hm';exact hm d hd) Aiw (by omega),hmi];rfl
 have hp:BPart (Aa6 (2^n-1) x) (blkB (mv.map mN) (Aa6 (2^n-1) x)):=(Anz hrest Aiw (by omega)).1;have hord:=q63_.few (l:=lN (blkB (mv.map mN) (Aa6 (2^n-1) x))) (by have:=hp.len hrest6;rw [Arb];omega) (by
  intro y hy;obtain ⟨b,hb,rfl⟩:=List.mem_map.1 hy
  exact U32.of (hp.lt hrest hb))
 obtain ⟨N,hN⟩:=hord;refine Bdo (p:=fun _=>none) (q:=Afu Blk.ordF) (by kernel_rfl) rfl (by kernel_rfl) ⟨N,fun m hm'=>?_⟩;simp only [Afu,henc,Atk];rw [if_pos ⟨by omega,by simp only [mi,List.length_map];exact hlen⟩,hr];simp only [runAsk];have:Ab6 env m Blk.ordF [.sl ((lN (blkB (mv.map mN) (Aa6 (2^n-1) x))).map (eI .u32))]=some (.sl ((ordL (lN (blkB (mv.map mN) (Aa6 (2^n-1) x)))).map (eI .u32)),[]):=hN m hm';rw [this];rfl
def Akb (d:api_FD):List api_MVD:=(Aar (sN d.Rhs)).map fun (a:Nat)=>⟨d.Lhs,((2^a:Nat):Int)⟩
def allI (fds:List api_FD) (mvds:List api_MVD):List api_MVD:=mvds++fds.flatMap Akb
theorem Baw {d:api_FD}:(Akb d).length<=32:=by unfold Akb;rw [List.length_map];exact Afr
theorem q80_.spec {fds:List api_FD} {mvds:List api_MVD} (hf:FdOK fds) (h1:fds.length<=64) (h2:mvds.length<=64):q80_.C fds mvds (allI fds mvds):=by
 obtain ⟨r,e1,e2⟩:=q80_.enter fds mvds (fun r=>r=allI fds mvds) (by
  refine ⟨by omega,?_⟩;have go:∀ (l:List api_FD) (i:Nat) (acc:List api_MVD),fds.drop i=l->acc.length<=64+32*i->acc++l.flatMap Akb=allI fds mvds->q80_.L1 fds acc (i:Int) (fun r=>r=allI fds mvds):=by
   intro l
   induction l with
   | nil=>
    intro i acc hd hl h;have:=Ach hd;apply q80_.L1_step;rw [if_neg (by omega)];simpa using h
   | cons d l ih=>
    intro i acc hd hl h;have hlt:=Aci hd;have hdm:=hf d (List.mem_of_getElem? (Aba hd));apply q80_.L1_step;rw [if_pos (by omega)];have hmem:=q47_.spec hdm.2.lt;rw [← hdm.2.eq] at hmem;refine ⟨d,Afk hd,_,hmem,?_⟩;have hbl:=Afr (n:=sN d.Rhs);have inner:∀ (t:List Nat) (k:Nat) (acc:List api_MVD),(Aar (sN d.Rhs)).drop k=t->k<=(Aar (sN d.Rhs)).length->acc.length<=64+32*i+k->acc++(t.map fun (a:Nat)=>(⟨d.Lhs,((2^a:Nat):Int)⟩:api_MVD))++l.flatMap Akb=allI fds mvds->q80_.L2 fds acc d (i:Int) ((Aar (sN d.Rhs)).map fun (i:Nat)=>(i:Int)) (k:Int) (fun r=>r=allI fds mvds):=by
     intro t
     induction t with
     | nil=>
      intro k acc hk hkl hl2 h2;have:=Ach hk;apply q80_.L2_step;rw [if_neg (by simp;omega),Aa9 (by omega)];exact ih (i+1) acc (Abq hd) (by omega) (by simpa using h2)
     | cons a t ih2=>
      intro k acc hk hkl hl2 h2;have hklt:=Aci hk;have ha:=Aba hk;have ha32:a<32:=Adr.1 hdm.2.lt a ((Abi hdm.2.lt).1 (List.mem_of_getElem? ha));apply q80_.L2_step;rw [if_pos (by simp;omega)];refine ⟨(a:Int),Abb (by simp [ha]),by omega,by omega,?_⟩;rw [Aa9 (by omega),Aq8 (k:=.u32) (by simpa [top] using ha32)];exact ih2 (k+1) _ (Abq hk) (by omega) (by simp;omega) (by simpa using h2)
    exact inner (Aar (sN d.Rhs)) 0 acc rfl (by omega) (by omega) (by
     rw [List.append_assoc]
     simpa [Akb] using h)
  exact go fds 0 mvds rfl (by omega) rfl)
 rw [← e1];exact e2
theorem Bce {fds:List api_FD} {mvds:List api_MVD} (hf:FdOK fds):(allI fds mvds).map mN=Aqi (fds.map fN) (mvds.map mN):=by
 unfold allI Aqi;rw [List.map_append,List.map_flatMap,List.flatMap_map];congr 1;refine flatMap_congr' fun d hd=>?_;unfold Akb fdMv;rw [List.map_map];refine List.map_congr_left fun a ha=>?_;show (sN d.Lhs,sN ((2^a:Nat):Int))=_;rw [Acw];rfl
theorem Be8 {fds:List api_FD} {mvds:List api_MVD} (hf:FdOK fds) (hm:Agf mvds):Agf (allI fds mvds):=by
 intro d hd;rcases List.mem_append.1 hd with hd | hd
 ·exact hm d hd
 ·obtain ⟨f,hfm,hd⟩:=List.mem_flatMap.1 hd;obtain ⟨a,ha,rfl⟩:=List.mem_map.1 hd;have hR:=(hf f hfm).2.lt;have ha32:a<32:=Adr.1 hR a ((Abi hR).1 ha);exact ⟨(hf f hfm).1,U32.of (Nat.pow_lt_pow_right (by omega) ha32)⟩
theorem Bcd {fds:List api_FD} {mvds:List api_MVD} (h1:fds.length<=64) (h2:mvds.length<=64):(allI fds mvds).length<1000000:=by
 have:(fds.flatMap Akb).length<=fds.length*32:=by
  clear h1
  induction fds with
  | nil=>simp
  | cons d l ih=>
   have:=Baw (d:=d);simp only [List.flatMap_cons,List.length_append,List.length_cons];omega
 unfold allI;rw [List.length_append];omega
theorem q70_.all {n x:Nat} {fds:List api_FD} {mvds:List api_MVD} (hn:n<=6) (hx:x<2^32) (hf:FdOK fds) (hm:Agf mvds) (h1:fds.length<=64) (h2:mvds.length<=64):q70_.C n (allI fds mvds) x (ordL (lN (finB (fds.map fN) (mvds.map mN) (Aa6 (2^n-1) x)))):=by
 have:=q70_.spec hn hx (Be8 hf hm) (Bcd h1 h2);rw [Bce hf] at this;exact this
theorem Bb2 {n:Nat} (hn:n<=16):q48_.C n ((2^n-1:Nat):Int):=by
 rw [← Az7 hn];exact q48_.spec
end Go.Own
