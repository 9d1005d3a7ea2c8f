/- What the functions answer. No conditions. -/
import Derived.Test.YtmiedlcblpiemaaGreatDoorRefuteSmallestLaw12
import Derived.Test.YtmiedlcblpiemaaGreatDoorRefuteSmallestLaw13
import Derived.Test.YtmiedlcblpiemaaGreatDoorRefuteSmallestLaw1
import Derived.Test.YtmiedlcblpiemaaGreatDoorRefuteSmallestLaw6
import Derived.Test.YtmiedlcblpiemaaGreatDoorRefuteSmallestLaw9
set_option linter.all false
open List renaming getElem?_eq_getElem->zA,mem_of_getElem?->zB,getElem?_eq_some_iff->zC,length_map->zD,getElem_mem->zE,drop_eq_getElem_cons->zI,length_filterMap_le->zK,filterMap_append->zN,mem_filter->zO,range->zR,getElem?_map->zS,length_take->zU,take_length->zV,drop_length->zW,getElem?_of_mem->zX,length_append->zY,take_add_one->yA,mem_map->yB,nil_append->yD,mem_append->yE,singleton_append->yH,length_singleton->yI,length_filter_le->yK,getElem_of_mem->yL,mem_singleton->yM,mem_filterMap->yO,filter_append->yP,cons_append->yR,length_drop->yS,all_eq_true->yT,mem_range->yV
open Nat renaming pow_le_pow_right->zF,lt_of_le_of_lt->zH,zero_le->zL,le_trans->zP,le_refl->zT,testBit_two_pow_sub_one->zZ,and_self->yC,two_pow_pos->yF,not_lt_zero->yG,testBit_or->yJ,lt_of_lt_of_le->yN,or_lt_two_pow->yQ
open Bool renaming and_eq_true->zG,false_ne_true->zQ,eq_iff_iff->yU
open Int renaming toNat_natCast->zM
namespace Go.Own
def ltS(x y:Int):Bool:=decide (keyS x<keyS y)
theorem Bjj:Go.Sort.SWO ltS where
 irrefl:=fun x=>by unfold ltS;simp
 trans:=fun x y z h1 h2=>by unfold ltS at *;simp only[decide_eq_true_eq]at *;omega
 ntrans:=fun x y z h1 h2=>by unfold ltS at *;simp only[decide_eq_false_iff_not]at *;omega
theorem q81_.spec{x y:Int}:q81_.C x y (cmpI x y):=by
 obtain⟨f1,g1,k1⟩:=q97_.enter x (fun r=>r=false) (by simp);obtain⟨f2,g2,k2⟩:=q97_.enter y (fun r=>r=false) (by simp);subst g1 g2;obtain⟨r,h1,h2⟩:=q81_.enter x y (fun r=>r=cmpI x y) (by
  refine⟨_,k1,_,k2,?_⟩;rw[if_neg (by decide),if_neg (by decide)];unfold cmpI
  split
  .rfl
  .split<;>rfl)
 rw[<-h1];exact h2
theorem q39_.spec{x y:Int}:q39_.C x y (cmpI x y):=by
 obtain⟨f1,g1,k1⟩:=q51_.enter x (fun r=>r=false) (by simp);obtain⟨f2,g2,k2⟩:=q51_.enter y (fun r=>r=false) (by simp);subst g1 g2;obtain⟨r,h1,h2⟩:=q39_.enter x y (fun r=>r=cmpI x y) (by
  refine⟨_,k1,_,k2,?_⟩;rw[if_neg (by decide),if_neg (by decide)];unfold cmpI
  split
  .rfl
  .split<;>rfl)
 rw[<-h1];exact h2
theorem q116_.two{a b:Int}:q116_.C [a,b] (if a=0 then b else a):=by
 obtain⟨r,h1,h2⟩:=q116_.enter [a,b] (fun r=>r=if a=0 then b else a) (by
  apply q116_.L1_step;rw[if_pos (by simp)];refine⟨a,rfl,?_⟩;by_cases ha:a=0
  .rw [if_pos ha];apply q116_.L1_step;have e:IntKind.wrap .i64 ((0:Int)+1)=1:=by decide
   rw[e,if_pos (by simp)];refine⟨b,rfl,?_⟩;by_cases hb:b=0
   .rw [if_pos hb];apply q116_.L1_step;have e:IntKind.wrap .i64 ((1:Int)+1)=2:=by decide
    rw[e,if_neg (by simp),if_pos ha,hb]
   .rw [if_neg hb,if_pos ha]
  .rw [if_neg ha,if_neg ha])
 rw[<-h1];exact h2
theorem Bhi:Amc U32 ltS q82_.C:=fun x y hx hy=>by
 obtain⟨r,h1,h2⟩:=q82_.enter x y (fun r=>r<0↔ltS x y=true) (by
  refine⟨_,q107_.spec hx,_,q107_.spec hy,_,q81_.spec,_,q39_.spec,_,q116_.two,?_⟩;unfold ltS;rw[decide_eq_true_eq,Bao hx hy];have ex:=hx.eq;have ey:=hy.eq;unfold cmpI;generalize szN (sN x)=s at *;generalize szN (sN y)=t at *;by_cases h1:(s:Int)<t
  .rw [if_pos h1,if_neg (by decide)];omega
  .rw [if_neg h1];by_cases h2:(t:Int)<s
   .rw [if_pos h2,if_neg (by decide)];omega
   .rw [if_neg h2,if_pos rfl]
    split
    .omega
    .split<;>omega)
 exact⟨r,h2,h1⟩
theorem Ang:∀(l:List Int)(a b:Int),Aaz (l++[a]++[b])=if a=b then Aaz (l++[a])else Aaz (l++[a])++[b]
 |[],a,b=>by
  simp only[yD,yH,Aaz]
  split<;>simp_all
 |[c],a,b=>by
  simp only[yH,yR,yD,Aaz]
  split<;>split<;>simp_all
 |c::d::r,a,b=>by
  have ih:=Ang (d::r) a b;simp only[yR,Aaz]at ih⊢;rw[ih]
  split<;>split<;>simp
theorem Aj6{l:List Int}{m:Nat}{a:Int}(h:l[m]?=some a):l.take (m+1)=l.take m++[a]:=by
 rw[yA,h];rfl
theorem Ao1{l:List Int}{m:Nat}{a b:Int}(ha:l[m]?=some a)(hb:l[m+1]?=some b):Aaz (l.take (m+2))=if a=b then Aaz (l.take (m+1))else Aaz (l.take (m+1))++[b]:=by
 have e1:l.take (m+2)=l.take m++[a]++[b]:=by rw[Aj6 (m:=m+1) hb,Aj6 ha]
 rw[e1,Aj6 ha,Ang]
namespace q22_
theorem inner{l:List Int}{o:Nat}{φ:List Int×Bool->Prop}(ho:1<=o)(hol:o<l.length)(hl:l.length<4611686018427387904)(h:∀b,φ (Aaz l,b))(n:Nat):∀(s:List Int)(k k2:Nat),l.length-o-k2<=n->1<=k2->o+k2<=l.length->s.length=l.length->k<=o+k2-1->s.take k=Aaz (l.take (o+k2))->(∀i,o+k2-1<=i->s[i]?=l[i]?)->L2 s k o (l.length-o) k2 φ:=by
 have hend:∀(s:List Int)(k k2:Nat),o+k2=l.length->s.length=l.length->k<=o+k2-1->s.take k=Aaz (l.take (o+k2))->L2 s k o (l.length-o) k2 φ:=fun s k k2 hk2 hs hk ht=>by
  apply L2_step;refine⟨by omega,?_⟩;rw[if_neg (by rw[zU,yS];omega)];refine⟨by omega,⟨by omega,by omega⟩,by omega,by omega,by omega,by omega,⟨by omega,by omega,by omega⟩,?_⟩;rw[zM];have e:s.take k=Aaz l:=by rw[ht,List.take_of_length_le (by omega)]
  rw[e];exact h _
 induction n with
 |zero=>intro s k k2 hn h1 hk2 hs hk ht hd;exact hend s k k2 (by omega) hs hk ht
 |succ n ih=>
  intro s k k2 hn h1 hk2 hs hk ht hd;by_cases hlt:o+k2<l.length
  .apply L2_step;refine⟨by omega,?_⟩;rw[if_pos (by rw[zU,yS];omega)];obtain⟨b,hb⟩:∃b,l[o+k2]?=some b:=⟨_,zA hlt⟩
   obtain⟨a,ha⟩:∃a,l[o+k2-1]?=some a:=⟨_,zA (by omega)⟩
   have e1:(o:Int)+(k2:Int)=((o+k2:Nat):Int):=by omega
   have e2:IntKind.wrap .i64 ((k2:Int)-1)=((k2-1:Nat):Int):=wx _ _ (by omega) (by omega);have e3:(o:Int)+((k2-1:Nat):Int)=((o+k2-1:Nat):Int):=by omega
   have e4:IntKind.wrap .i64 ((k2:Int)+1)=((k2+1:Nat):Int):=wx _ _ (by omega) (by omega);have e5:IntKind.wrap .i64 ((k:Int)+1)=((k+1:Nat):Int):=wx _ _ (by omega) (by omega);rw[e1,e2,e3];have hstep:=Ao1 (l:=l) (m:=o+k2-1) ha (by rw[show o+k2-1+1=o+k2 by omega];exact hb);rw[show o+k2-1+2=o+(k2+1) by omega,show o+k2-1+1=o+k2 by omega]at hstep;refine⟨b,by rw[Abk,hd _ (by omega)];exact hb,⟨by omega,by omega⟩,by omega,a,by rw[Abk,hd _ (by omega)];exact ha,⟨by omega,by omega⟩,by omega,?_⟩;by_cases hab:b=a
   .rw [if_pos hab];apply L3_step;rw[e4];rw[if_pos hab.symm]at hstep;exact ih s k (k2+1) (by omega) (by omega) (by omega) hs (by omega) (by rw[ht,hstep]) (fun i hi=>hd i (by omega))
   .rw [if_neg hab];rw[if_neg (fun h=>hab h.symm)]at hstep;obtain⟨c,hc⟩:∃c,s[k]?=some c:=⟨_,zA (by omega)⟩
    refine⟨⟨by omega,by omega⟩,by omega,c,by rw[Abk];exact hc,?_⟩;apply L3_step;rw[e4,e5];have hls:lset s (k:Int) b=s.set k b:=by unfold lset;rw[zM]
    rw[hls];refine ih (s.set k b) (k+1) (k2+1) (by omega) (by omega) (by omega) (by rw[List.length_set];exact hs) (by omega) ?_ (fun i hi=>?_)
    .rw [hstep,<-ht,Aj6 (a:=b) (by rw[List.getElem?_set_self (by omega)])];congr 1;rw[List.take_set_of_le (zT k)]
    .rw [List.getElem?_set_ne (by omega)];exact hd i (by omega)
  .exact hend s k k2 (by omega) hs hk ht
theorem outer{l:List Int}{φ:List Int×Bool->Prop}(hl:l.length<4611686018427387904)(h:∀b,φ (Aaz l,b))(n:Nat):∀i,l.length-i<=n->1<=i->i<=l.length->Aaz (l.take i)=l.take i->L1 l i φ:=by
 induction n with
 |zero=>
  intro i hn h1 hi hc;apply L1_step;rw[if_neg (by omega)];have e:i=l.length:=by omega
  rw[e,zV]at hc;have:=h true
  rwa [hc]at this
 |succ n ih=>
  intro i hn h1 hi hc;by_cases hlt:i<l.length
  .apply L1_step;rw[if_pos (by omega)];obtain⟨b,hb⟩:∃b,l[i]?=some b:=⟨_,zA hlt⟩
   obtain⟨a,ha⟩:∃a,l[i-1]?=some a:=⟨_,zA (by omega)⟩
   have e2:IntKind.wrap .i64 ((i:Int)-1)=((i-1:Nat):Int):=wx _ _ (by omega) (by omega);have e4:IntKind.wrap .i64 ((i:Int)+1)=((i+1:Nat):Int):=wx _ _ (by omega) (by omega);rw[e2,e4];have hstep:=Ao1 (l:=l) (m:=i-1) ha (by rw[show i-1+1=i by omega];exact hb);rw[show i-1+2=i+1 by omega,show i-1+1=i by omega]at hstep;refine⟨b,by rw[Abk];exact hb,a,by rw[Abk];exact ha,?_⟩;by_cases hab:b=a
   .rw [if_pos hab];rw[if_pos hab.symm]at hstep;refine⟨by omega,⟨by omega,by omega⟩,?_⟩;rw[zM];exact inner (o:=i) h1 hlt hl h (l.length-i-1) l i 1 (zT _) (zT _) (by omega) rfl (by omega) (by rw[hstep,hc]) (fun _ _=>rfl)
   .rw [if_neg hab];rw[if_neg (fun h=>hab h.symm)]at hstep;exact ih (i+1) (by omega) (by omega) (by omega) (by rw[hstep,hc,Aj6 hb])
  .apply L1_step;rw[if_neg (by omega)];have e:i=l.length:=by omega
   rw[e,zV]at hc;have:=h true
   rwa [hc]at this
theorem spec{l:List Int}(hl:l.length<4611686018427387904):∃b,C l (Aaz l,b):=by
 obtain⟨r,⟨b,rfl⟩,h2⟩:=enter l (fun r=>∃b,r=(Aaz l,b)) (by
  split
  .rename_i h;refine⟨true,?_⟩
   match l,h with
   |[],_=>rfl
   |[a],_=>rfl
   |_::_::_,h=>simp at h;omega
  .rename_i h;have:1<=l.length:=by omega
   exact outer hl (fun b=>⟨b,rfl⟩) (l.length-1) 1 (by omega) (by omega) this (by
    obtain⟨a,r,rfl⟩:∃a r,l=a::r:=by cases l with
     |nil=>simp at this
     |cons a r=>exact⟨a,r,rfl⟩
    rfl))
 exact⟨b,h2⟩
end q22_
theorem q99_.spec{l:List Int}(hl:l.length<=35184372088832)(hu:AllU l):q99_.C l (ordL l):=by
 obtain⟨r,h1,h2⟩:=q99_.enter l (fun r=>r=ordL l) (by
  obtain⟨s,c,hp,ha⟩:=q13_.spec Bhi Bjj (l:=l) (by omega) hu;have hlen:=hp.length_eq;obtain⟨b,c2⟩:=q22_.spec (l:=s) (by omega);refine⟨by omega,s,c,_,c2,?_⟩;have hus:AllU s:=fun x hx=>hu x (hp.mem_iff.1 hx);refine Bat hu (Aju hus (ha.imp fun h=>?_)) fun y=>by rw[Ahb,hp.mem_iff]
  unfold ltS at h;simp only[decide_eq_false_iff_not]at h
  omega)
 rw[<-h1];exact h2
def subL(s:Nat):List Int:=(bsL 32 s).map fun(n:Nat)=>(n:Int)
theorem Ar7{s:Nat}(hs:s<2^32){y:Int}:y∈subL s↔∃n:Nat,y=n/\n &&& s=n:=by
 unfold subL;rw[yB];constructor
 .rintro ⟨n,hn,rfl⟩;exact⟨n,rfl,(Atk hs n).1 hn⟩
 .rintro ⟨n,rfl,hn⟩;exact⟨n,(Atk hs n).2 hn,rfl⟩
theorem An9{s:Nat}(hs:s<2^32):AllU (subL s):=fun y hy=>by
 obtain⟨n,rfl,hn⟩:=(Ar7 hs).1 hy;have:=Az0 hn;exact U32.of (by omega)
def At4(s:Nat):List Int:=if 12<szN s then[]else ordL (subL s)
theorem Au6{l:List Int}(hu:AllU l)(hn:l.Nodup):(ordL l).length=l.length:=by
 have h1:(ordL l).Nodup:=(An1 hu).imp fun {a b} h=>fun e=>by subst e;omega
 exact((List.perm_ext_iff_of_nodup h1 hn).2 fun y=>An2 hu y).length_eq
theorem Bck{s:Nat}(hs:s<2^32):(ordL (subL s)).length=2^szN s:=by
 rw[Au6 (An9 hs)]
 .unfold subL;rw[zD,Bag];rfl
 .unfold subL;have h1:(bsL 32 s).Nodup:=Baf.imp fun {a b} h=>by omega
  exact List.Pairwise.map _ (fun a b h=>by omega) h1
theorem q84_.loop{s:Nat}(hs:s<2^32){φ:List Int->Prop}(h:φ (ordL (subL s)))(n:Nat):∀(x:Nat)(out:List Int),x<=n->x &&& s=x->out.length+x<=s+1->(∀y,y∈out↔∃m:Nat,y=m/\m &&& s=m/\x<=m)->q84_.L1 s out x φ:=by
 induction n with
 |zero=>
  intro x out hx hsub hl hm;have:x=0:=by omega
  subst this;apply q84_.L1_step;rw[if_pos (by omega)];have hmem:∀y,y∈out↔y∈subL s:=fun y=>by
   rw[hm,Ar7 hs];constructor
   .rintro ⟨m,a,b,_⟩;exact⟨m,a,b⟩
   .rintro ⟨m,a,b⟩;exact⟨m,a,b,zL _⟩
  have hu:AllU out:=fun y hy=>An9 hs y ((hmem y).1 hy);refine⟨_,q99_.spec (by omega) hu,?_⟩;rw[Bc4 (An9 hs) hmem];exact h
 |succ n ih=>
  intro x out hx hsub hl hm;by_cases h0:x=0
  .exact ih x out (by omega) hsub hl hm
  .apply q84_.L1_step;rw[if_neg (by omega)];refine⟨by omega,?_⟩;have hxs:=Az0 hsub;have e1:IntKind.wrap .u32 ((x:Int)-1)=((x-1:Nat):Int):=by
    rw[show(x:Int)-1=((x-1:Nat):Int) by omega];exact Acz (k:=.u32) (by simp only[top];omega)
   rw[e1,Ajr (k:=.u32) (by simp only[top];omega) (by simpa[top]using hs)];have hp:(x-1) &&& s<=x-1:=Nat.and_le_left;refine ih _ _ (by omega) (by rw[Nat.and_assoc,yC]) (by rw[zY,yI];omega) fun y=>?_;rw[yE,hm,yM];constructor
   .rintro (⟨m,a,b,c⟩|rfl)
    .exact ⟨m,a,b,by omega⟩
    .exact ⟨_,rfl,by rw[Nat.and_assoc,yC],zT _⟩
   .rintro ⟨m,rfl,b,c⟩;rcases Nat.lt_or_ge m x with h1|h1
    .right;have:=Bgj x s m hsub (by omega) b h1;have:m=(x-1) &&& s:=by omega
     rw[this]
    .exact .inl ⟨m,rfl,b,h1⟩
theorem q84_.spec{s:Nat}(hs:s<2^32):q84_.C s (At4 s):=by
 obtain⟨r,h1,h2⟩:=q84_.enter s (fun r=>r=At4 s) (by
  have hz:=q107_.spec (x:=(s:Int)) (U32.of hs);rw[Asy]at hz;refine⟨_,hz,?_⟩;unfold At4;by_cases h12:12<szN s
  .rw [if_pos (by omega),if_pos h12]
  .rw [if_neg (by omega),if_neg h12];refine q84_.loop (φ:=fun r=>r=ordL (subL s)) hs (Eq.refl _) s s [(s:Int)] (zT s) (yC s) (by rw[yI];omega) fun y=>?_;rw[yM];constructor
   .rintro rfl;exact⟨s,rfl,yC s,zT _⟩
   .rintro ⟨m,rfl,b,c⟩;have:=Az0 b;have:m=s:=by omega
    rw[this])
 rw[<-h1];exact h2
theorem At5:∀n:Nat,n<=16->szN (2^n-1)=n:=by
 intro n hn;have:∀i:Fin 17,szN (2^i.val-1)=i.val:=by decide +kernel
 exact this ⟨n,by omega⟩
theorem Bc7{n:Nat}(hn:n<=16):2^n<=65536/\0<2^n:=⟨zF (n:=2) (by omega) hn,Nat.pow_pos (by omega)⟩
def keyR(t:api_Table)(m i:Nat):ByteArray:=Aba (pick ((t.Rows[i]?).map (·.Values) |>.getD []) m)
theorem Aee{t:api_Table}{m i:Nat}(hi:i<t.Rows.length):keyR t m i=Aba (pick (t.Rows[i]).Values m):=by
 unfold keyR;rw[zA hi];rfl
section
variable{t:api_Table}
theorem Bjs{m i k:Nat}(ht:TV t)(hm:m<2^32)(hi:i<t.Rows.length)(hk:k<t.Rows.length):pick (t.Rows[i]).Values m=pick (t.Rows[k]).Values m↔∀a,m.testBit a=true->EqA t i k a:=by
 rw[<-Ayr ht hm hi hk];unfold Adl;rw[zS,zS,zA hi,zA hk];simp
theorem Am1{m i:Nat}(ht:TV t)(hn:TNum t)(hi:i<t.Rows.length):∀v∈pick (t.Rows[i]).Values m,Aay v=true/\Aki v:=fun v hv=>
 ⟨ht.val (zE hi) v (Afp v hv),hn _ (zE hi) v (Afp v hv)⟩
theorem Au7{m i k:Nat}(ht:TV t)(hi:i<t.Rows.length)(hk:k<t.Rows.length):(pick (t.Rows[i]).Values m).length=(pick (t.Rows[k]).Values m).length:=
 Axu (by rw[ht.len (zE hi),ht.len (zE hk)])
theorem Aiz{m i k:Nat}(ht:TV t)(hn:TNum t)(hm:m<2^32)(hi:i<t.Rows.length)(hk:k<t.Rows.length):keyR t m i=keyR t m k↔∀a,m.testBit a=true->EqA t i k a:=by
 rw[Aee hi,Aee hk,Aob (Au7 ht hi hk) (Am1 ht hn hi) (Am1 ht hn hk),Bjs ht hm hi hk]
theorem Bjh{p q i k:Nat}(ht:TV t)(hn:TNum t)(hi:i<t.Rows.length)(hk:k<t.Rows.length)(h:keyR t p i++keyR t q i=keyR t p k++keyR t q k):keyR t p i=keyR t p k/\keyR t q i=keyR t q k:=by
 rw[Aee hi,Aee hi,Aee hk,Aee hk]at *;rw[Aoc,Aoc]at h;have l1:=Au7 (m:=p) ht hi hk;have l2:=Au7 (m:=q) ht hi hk;have:=(Aob (by rw[zY,zY,l1,l2]) (fun v hv=>by
  rcases yE.1 hv with hv|hv
  .exact Am1 ht hn hi v hv
  .exact Am1 ht hn hi v hv) (fun v hv=>by
  rcases yE.1 hv with hv|hv
  .exact Am1 ht hn hk v hv
  .exact Am1 ht hn hk v hv)).1 h
 obtain⟨h1,h2⟩:=List.append_inj this l1;rw[h1,h2];exact⟨rfl,rfl⟩
def grpK(t:api_Table)(l:Nat)(s:ByteArray):List Nat:=(zR t.Rows.length).filter fun i=>keyR t l i==s
theorem Afk{l i:Nat}{s:ByteArray}:i∈grpK t l s↔i<t.Rows.length/\keyR t l i=s:=by
 unfold grpK;rw[zO,yV,Ad7]
def okG(t:api_Table)(l p q:Nat)(s:ByteArray):Prop:=(dd ((grpK t l s).map (keyR t p))).length*(dd ((grpK t l s).map (keyR t q))).length=(dd ((grpK t l s).map fun i=>keyR t p i++keyR t q i)).length
theorem Bjp{l r:Nat}(ht:TV t)(hn:TNum t)(hl:l<2^t.Attrs.length)(hr:r<2^t.Attrs.length):(∀i,i<t.Rows.length->okG t l (Acf r l) (Acf (2^t.Attrs.length-1) (l ||| r)) (keyR t l i))↔MvP t l r:=by
 have na:=ht.na;have hp:=Bc7 na;have hR:Acf r l<2^32:=zH Aic (by omega);have hS:Acf (2^t.Attrs.length-1) (l ||| r)<2^32:=zH Aic (by omega);have all:∀s,okG t l (Acf r l) (Acf (2^t.Attrs.length-1) (l ||| r)) s↔∀x∈grpK t l s,∀y∈grpK t l s,∃z∈grpK t l s,keyR t (Acf r l) z=keyR t (Acf r l) x/\keyR t (Acf (2^t.Attrs.length-1) (l ||| r)) z=keyR t (Acf (2^t.Attrs.length-1) (l ||| r)) y:=fun s=>
  Bdt fun x hx y hy h=>Bjh ht hn (Afk.1 hx).1 (Afk.1 hy).1 h
 have bitS:∀a,(Acf (2^t.Attrs.length-1) (l ||| r)).testBit a=true↔a<t.Attrs.length/\(l ||| r).testBit a=false:=fun a=>by
  rw[Ah3,zZ,zG,decide_eq_true_eq,Bool.not_eq_true']
 constructor
 .intro h i k hi hk he;have hki:=(Aiz ht hn (show l<2^32 by omega) hi hk).2 he;obtain⟨j,hj,e1,e2⟩:=(all _).1 (h i hi) i (Afk.2 ⟨hi,rfl⟩) k (Afk.2 ⟨hk,hki.symm⟩);obtain⟨hjl,hjk⟩:=Afk.1 hj;refine⟨j,hjl,fun a ha=>?_,fun a ha hb=>(Aiz ht hn hS hjl hk).1 e2 a ((bitS a).2 ⟨ha,hb⟩)⟩;by_cases hla:l.testBit a=true
  .exact (Aiz ht hn (show l<2^32 by omega) hjl hi).1 hjk a hla
  .refine (Aiz ht hn hR hjl hi).1 e1 a ?_;rw[yJ,Bool.or_eq_true]at ha;rw[Ah3,(ha.resolve_left hla)];simpa using hla
 .intro h i hi;refine(all _).2 fun x hx y hy=>?_;obtain⟨hxl,hxk⟩:=Afk.1 hx;obtain⟨hyl,hyk⟩:=Afk.1 hy;obtain⟨j,hjl,e1,e2⟩:=h x y hxl hyl ((Aiz ht hn (show l<2^32 by omega) hxl hyl).1 (hxk.trans hyk.symm));refine⟨j,Afk.2 ⟨hjl,?_⟩,(Aiz ht hn hR hjl hxl).2 fun a ha=>e1 a ?_,(Aiz ht hn hS hjl hyl).2 fun a ha=>?_⟩
  .rw [<-hxk];exact(Aiz ht hn (show l<2^32 by omega) hjl hxl).2 fun a ha=>e1 a (by rw[yJ,ha];rfl)
  .rw [Ah3,zG]at ha;rw[yJ,ha.1,Bool.or_true]
  .obtain ⟨h1,h2⟩:=(bitS a).1 ha;exact e2 a h1 h2
end
namespace q100_
end q100_
namespace q68_
end q68_
theorem Ayt{n:Nat}(hn:n<=16):IntKind.wrap .u32 (shlw .u32 1 (n:Int)-1)=((2^n-1:Nat):Int):=by
 have hp:=Bc7 hn;have e:shlw .u32 1 (n:Int)=((2^n:Nat):Int):=An8 (k:=.u32) (by simp only[top];omega);rw[e,show(((2^n:Nat):Int)-1)=((2^n-1:Nat):Int) by omega];exact Acz (k:=.u32) (by simp only[top];omega)
theorem Arz{n:Nat}(hn:n<=16):Ad3 n=2^n-1:=by unfold Ad3;rw[Nat.min_eq_left (by omega)]
theorem Aor{E:Env}{f:Nat}{p:List D->Option (D×List D)}{q:List D->Ask}{ds:List D}{r:D}{outs:List D}(h1:E.prim f=some p)(h2:p ds=none)(h3:E.hand f=some q)(h4:∃N,∀n,N<=n->runAsk (Abt E n) (q ds)=some (r,outs)):Ret E f ds r outs:=by
 obtain⟨N,hN⟩:=h4;refine⟨N+1,fun m hm=>?_⟩;obtain⟨k,rfl⟩:∃k,m=k+1:=⟨m-1,by omega⟩
 simp only[Abt,h1,h2,h3];exact hN k (by omega)
theorem t32H{a:Nat}(h:a<2^32):a<2^top .u32:=by simpa[top]using h
namespace q120_
theorem spec{t:api_Table}(ht:TV t){r:api_Row}(hr:r∈t.Rows){n:Nat}(hn:n<2^t.Attrs.length):C r n (Aba (pick r.Values n)):=by
 have hn32:n<2^32:=yN hn (zF (by decide) (by have:=ht.na;omega));have hl:=Afz (n:=n);obtain⟨q,h1,h2⟩:=enter r n (fun q=>q=Aba (pick r.Values n)) (by
  refine⟨_,q76_.spec hn32,?_⟩;have loop:∀j,j<=(Aag n).length->L1 r (Aba (((Aag n).take j).filterMap fun i=>r.Values[i]?)) ((Aag n).map fun(i:Nat)=>(i:Int)) (j:Int) fun q=>q=Aba (pick r.Values n):=by
   refine down ?_ ?_
   .apply L1_step;rw[zD,if_neg (by omega),zV];rfl
   .intro j hj h;apply L1_step;rw[zD,if_pos (by omega)];have hget:=zA hj;generalize(Aag n)[j]=i at hget;have hi:=(Acm hn32).1 (zB hget);have hilt:i<t.Attrs.length:=by
     false_or_by_contra
     rename_i hh;rw[Nat.testBit_lt_two_pow (yN hn (zF (by decide) (by omega)))]at hi;cases hi
    have hrl:=ht.len hr;have hv:=zA (l:=r.Values) (i:=i) (by omega);generalize r.Values[i]'(by omega)=v at hv;have hval:=ht.val hr v (zB hv);refine⟨(i:Int),by rw[Abk,zS,hget];rfl,v,Aau hv,(keyW v,0),q119_.spec hval,?_,?_⟩
    .have a1:=Aoa (l:=((Aag n).take j).filterMap fun i=>r.Values[i]?) (fun v hv=>by
      obtain⟨i,_,hi⟩:=yO.1 hv
      exact ht.val hr v (zB hi))
     have a2:(((Aag n).take j).filterMap fun i=>r.Values[i]?).length<=32:=zP (zK _ _) (by rw[zU];omega);have a3:=Amx hval;rw[Asb,Avj];omega
    .rw [Aa4 (by omega)];have e:(((Aag n).take (j+1)).filterMap fun i=>r.Values[i]?)=(((Aag n).take j).filterMap fun i=>r.Values[i]?)++[v]:=by
      rw[yA,hget,zN];simp[hv]
     rw[e]at h;simp only[Bg1,Aoc];exact h
  have:=loop 0 (zL _)
  simpa[Aba,Ad5,bstr]using this)
 rw[<-h1];exact h2
end q120_
def row3(l p q:Nat)(r:api_Row):Key3:=(Aba (pick r.Values l),Aba (pick r.Values p),Aba (pick r.Values q))
theorem Axa{t:api_Table}(ht:TV t){l p q:Nat}(hl:l<2^t.Attrs.length)(hp:p<2^t.Attrs.length)(hq:q<2^t.Attrs.length)(k:List Key3->Ask):∀(rs:List api_Row),(∀r∈rs,r∈t.Rows)->∃N,∀m,N<=m->∀acc,runAsk (Abt env m) (Agx Hol.keyF l p q k (rs.map Aa0) acc)=runAsk (Abt env m) (k (acc++rs.map (row3 l p q)))
 |[],_=>⟨0,fun m _ acc=>by simp[Agx]⟩
 |r::rs,h=>by
  obtain⟨N,hN⟩:=Axa ht hl hp hq k rs fun r hr=>h r (by simp[hr]);have hr:=h r (by simp);obtain⟨N1,h1⟩:=q120_.spec ht hr hl;obtain⟨N2,h2⟩:=q120_.spec ht hr hp;obtain⟨N3,h3⟩:=q120_.spec ht hr hq;refine⟨N+N1+N2+N3,fun m hm acc=>?_⟩;have k1:Abt env m Hol.keyF [.agg [.lit (.int .i64 r.ID),.sl (r.Values.map Aa2)],.lit (.int .u32 l)]=some (.lit (.string (Aba (pick r.Values l))),[]):=h1 m (by omega);have k2:Abt env m Hol.keyF [.agg [.lit (.int .i64 r.ID),.sl (r.Values.map Aa2)],.lit (.int .u32 p)]=some (.lit (.string (Aba (pick r.Values p))),[]):=h2 m (by omega);have k3:Abt env m Hol.keyF [.agg [.lit (.int .i64 r.ID),.sl (r.Values.map Aa2)],.lit (.int .u32 q)]=some (.lit (.string (Aba (pick r.Values q))),[]):=h3 m (by omega);have z1:=Ayc (l:=r.Values) (n:=p) fun v hv=>ht.val hr v hv;have z2:=Ayc (l:=r.Values) (n:=q) fun v hv=>ht.val hr v hv;have e:(r::rs).map Aa0=[.lit (.int .i64 r.ID),.sl (r.Values.map Aa2)]::rs.map Aa0:=rfl;rw[e];simp only[Agx,runAsk,k1,k2,k3];rw[if_pos (by omega),hN m (by omega)];simp[row3]
theorem Bge{t:api_Table}{l p q:Nat}:okH (t.Rows.map (row3 l p q))=true↔∀i,i<t.Rows.length->okG t l p q (keyR t l i):=by
 have e:t.Rows.map (row3 l p q)=(zR t.Rows.length).map fun i=>(keyR t l i,keyR t p i,keyR t q i):=by
  apply List.ext_getElem
  .simp
  .intro i h1 h2;simp only[List.getElem_map,List.getElem_range];rw[zD]at h1;rw[Aee h1,Aee h1,Aee h1];rfl
 have eg:∀s,grpH (t.Rows.map (row3 l p q)) s=(grpK t l s).map fun i=>(keyR t l i,keyR t p i,keyR t q i):=fun s=>by
  rw[e];unfold grpH grpK;rw[List.filter_map];exact congrArg _ (List.filter_congr fun i _=>Eq.refl (keyR t l i==s))
 have eo:∀s,okK (t.Rows.map (row3 l p q)) s↔okG t l p q s:=fun s=>by
  unfold okK set1 set2 set3 okG;rw[eg];simp only[List.map_map];exact Iff.rfl
 rw[Au5];constructor
 .intro h i hi;rw[Aee hi];have hm:=h (row3 l p q t.Rows[i]) (yB.2 ⟨t.Rows[i],zE hi,rfl⟩);simp only[row3]at hm;exact(eo _).1 hm
 .intro h x hx;obtain⟨r,hr,rfl⟩:=yB.1 hx;obtain⟨i,hi,rfl⟩:=yL hr;have:=h i hi;rw[Aee hi]at this;simp only[row3];exact(eo _).2 this
noncomputable def Ajz(t:api_Table)(m:api_MVD):Bool×Int:=if Ac0 t=0 then Agc t m else(false,Ac0 t)
theorem q115_.spec{t:api_Table}(hn:TNum t){m:api_MVD}(hl:U32 m.Lhs)(hr:U32 m.Rhs):q115_.C t m (Ajz t m):=by
 obtain⟨N,hN⟩:=q113_.spec (t:=t);have kv:∀j,N<=j->Abt env j Hol.valF [.agg [.lit (.string t.Name),.sl (t.Attrs.map eS),.sl (t.Rows.map Aa0)]]=some (.lit (.int .i64 (Ac0 t)),[]):=fun j hj=>hN j hj;by_cases h0:Ac0 t=0
 .have ht:=Ad6.1 h0;have na:=ht.na;have pw:=Bc7 na;have p16:2^t.Attrs.length<=2^16:=zF (by decide) na;have p0:=yF t.Attrs.length;have eor:=orI hl hr;have hor:sN m.Lhs ||| sN m.Rhs<2^32:=yQ hl.lt hr.lt
  have eshr:shrw .u32 (bOr .u32 m.Lhs m.Rhs) ((t.Attrs.map eS).length:Int)=(((sN m.Lhs ||| sN m.Rhs) / 2^t.Attrs.length:Nat):Int):=by
   rw[zD,eor];exact Adj (t32H hor)
  by_cases hin:inU t.Attrs.length m.Lhs m.Rhs=true
  .have hlt:=As4.1 hin;have hl2:sN m.Lhs<2^t.Attrs.length:=zH Nat.left_le_or hlt;have hr2:sN m.Rhs<2^t.Attrs.length:=zH Nat.right_le_or hlt;have hp2:Acf (sN m.Rhs) (sN m.Lhs)<2^t.Attrs.length:=zH Aic hr2;have hq2:Acf (2^t.Attrs.length-1) (sN m.Lhs ||| sN m.Rhs)<2^t.Attrs.length:=zH Aic (by omega);have e1:Af0 m.Lhs m.Rhs=((Acf (sN m.Rhs) (sN m.Lhs):Nat):Int):=by
    unfold Af0
    conv=>lhs;rw[hl.eq,hr.eq]
    exact Ald hr.top hl.top
   have e2:Agp ((t.Attrs.map eS).length:Int) m.Lhs m.Rhs=((Acf (2^t.Attrs.length-1) (sN m.Lhs ||| sN m.Rhs):Nat):Int):=by
    unfold Agp;rw[zD,eor,Ayt na];exact Ald (t32H (by omega)) (t32H hor)
   obtain⟨N2,hN2⟩:=Axa ht hl2 hp2 hq2 (fun L=>.ret (some (resH (okH L) 0,[]))) t.Rows fun r hr=>hr;refine Aor (p:=fun _=>none) (q:=Ado Hol.valF Hol.keyF) (by kernel_rfl) rfl (by kernel_rfl) ⟨N+N2,fun j hj=>?_⟩;simp only[Ado,runAsk,kv j (by omega),h0,if_true];rw[if_pos (by rw[eshr,Nat.div_eq_of_lt hlt];rfl),if_pos (by rw[zD];have:=ht.nr;omega),e1,e2];have:=hN2 j (by omega) [];rw[<-hl.eq]at this;rw[this];simp only[runAsk,yD];have hok:okH (t.Rows.map (row3 (sN m.Lhs) (Acf (sN m.Rhs) (sN m.Lhs)) (Acf (2^t.Attrs.length-1) (sN m.Lhs ||| sN m.Rhs))))=mvB t (sN m.Lhs) (sN m.Rhs):=by
    rw[yU,Bge,Ajp];exact Bjp ht hn hl2 hr2
   rw[hok];unfold Ajz Agc;rw[if_pos h0,if_pos hin];rfl
  .have hge:2^t.Attrs.length<=sN m.Lhs ||| sN m.Rhs:=Nat.le_of_not_lt fun h=>hin (As4.2 h)
   refine Aor (p:=fun _=>none) (q:=Ado Hol.valF Hol.keyF) (by kernel_rfl) rfl (by kernel_rfl) ⟨N,fun j hj=>?_⟩;simp only[Ado,runAsk,kv j (by omega),h0,if_true];rw[if_neg (by
    rw[eshr];have:0<(sN m.Lhs ||| sN m.Rhs) / 2^t.Attrs.length:=Nat.div_pos hge p0
    omega)]
   unfold Ajz Agc;rw[if_pos h0,if_neg hin];rfl
 .refine Aor (p:=fun _=>none) (q:=Ado Hol.valF Hol.keyF) (by kernel_rfl) rfl (by kernel_rfl) ⟨N,fun j hj=>?_⟩;simp only[Ado,runAsk,kv j (by omega)];rw[if_neg h0];unfold Ajz;rw[if_neg h0];rfl
theorem Bdp{n:Nat}(hn:n<=16):q77_.C n ((2^n-1:Nat):Int):=by
 rw[<-Arz hn];exact q77_.spec
def abcK:List ByteArray:=[⟨#[97]⟩,⟨#[98]⟩,⟨#[99]⟩,⟨#[100]⟩,⟨#[101]⟩,⟨#[102]⟩,⟨#[103]⟩,⟨#[104]⟩,⟨#[105]⟩,⟨#[106]⟩,⟨#[107]⟩,⟨#[108]⟩,⟨#[109]⟩,⟨#[110]⟩,⟨#[111]⟩,⟨#[112]⟩]
def bitV(b:Bool):api_Value:=⟨1,if b=true then 1 else 0,⟨#[]⟩⟩
def rowV(n m:Nat):List api_Value:=(zR n).map fun i=>bitV (m.testBit i)
namespace q108_
end q108_
theorem q54_.spec{n:Nat}{l r:Int}(hn:n<=16)(hl:U32 l)(hr:U32 r):q54_.C n l r (inU n l r):=by
 obtain⟨q,h1,h2⟩:=q54_.enter n l r (fun q=>q=inU n l r) (by
  have e0:bOr .u32 l r=((sN l ||| sN r:Nat):Int):=by
   conv=>lhs;rw[hl.eq,hr.eq]
   exact Aln hl.top hr.top
  have hlt:sN l ||| sN r<2^32:=yQ hl.lt hr.lt
  have hs:=At3 (n:=n) (x:=((sN l ||| sN r:Nat):Int)) (by omega) (U32.of hlt);rw[Arz hn]at hs;refine⟨_,Bdp hn,_,by rw[e0];exact hs,?_⟩;refine yU.2 ?_;rw[decide_eq_true_iff,Asy];unfold inU
  rw[zG,decide_eq_true_iff,decide_eq_true_iff,<-Aww])
 rw[<-h1];exact h2
namespace q102_
end q102_
theorem Atp{t:api_Table}(ht:TV t){d:api_FD}(hl:U32 d.Lhs)(hr:U32 d.Rhs):∃b,q35_.C t d b/\(b=true↔SatP t (sN d.Lhs) (sN d.Rhs)):=
 q35_.spec ht hl.eq hr.eq hl.lt hr.lt
namespace q70_
end q70_
theorem Akz{α:Type}{l:List α}{P:α->Prop}{L:Int->Prop}{N:Prop}(hend:(∀a∈l,P a)->L (l.length:Int))(hbad:(¬ ∀a∈l,P a)->N)(hs:∀(k:Nat)(a:α),l[k]?=some a->k<l.length->(P a->L ((k+1:Nat):Int))->(¬P a->N)->L (k:Int)):L 0:=by
 have go:∀(d k:Nat),d+k=l.length->(∀j a,j<k->l[j]?=some a->P a)->L (k:Int):=by
  intro d
  induction d with
  |zero=>
   intro k hk hp;have hk:k=l.length:=by omega
   subst hk;refine hend fun a ha=>?_;obtain⟨j,hj⟩:=zX ha;exact hp j a (zC.1 hj).1 hj
  |succ d ih=>
   intro k hk hp;have hlt:k<l.length:=by omega
   have hget:=zA hlt;refine hs k _ hget hlt (fun hP=>ih (k+1) (by omega) fun j a hj ha=>?_) (fun hP=>hbad fun h=>hP (h _ (zE hlt)));by_cases hjk:j=k
   .subst hjk;rw[hget]at ha;cases ha;exact hP
   .exact hp j a (by omega) ha
 exact go l.length 0 rfl fun j _ hj=>absurd hj (yG j)
def Bb3(t:api_Table)(fds:List api_FD)(mvds:List api_MVD):Prop:=(∀d∈fds,SatP t (sN d.Lhs) (sN d.Rhs))/\∀m∈mvds,MvP t (sN m.Lhs) (sN m.Rhs)
open Classical in
noncomputable def Aep(t:api_Table)(fds:List api_FD)(mvds:List api_MVD):Bool:=decide (Bb3 t fds mvds)
theorem Anx{t:api_Table}{fds:List api_FD}{mvds:List api_MVD}:Aep t fds mvds=true↔Bb3 t fds mvds:=by unfold Aep;exact @decide_eq_true_iff _ (Classical.propDecidable _)
theorem Akm{t:api_Table}{fds:List api_FD}{mvds:List api_MVD}(h:¬Bb3 t fds mvds):Aep t fds mvds=false:=by
 cases hb:Aep t fds mvds with
 |false=>rfl
 |true=>exact absurd (Anx.1 hb) h
theorem Bas{t:api_Table}{l r:Nat}(h:¬MvP t l r):mvB t l r=false:=by
 cases hb:mvB t l r with
 |false=>rfl
 |true=>exact absurd (Ajp.1 hb) h
noncomputable def Aip(t:api_Table)(fds:List api_FD)(mvds:List api_MVD):Bool×Int:=if Ac0 t=0 then(if basE (t.Attrs.length:Int) fds mvds=0 then(Aep t fds mvds,0)else(false,basE (t.Attrs.length:Int) fds mvds))else(false,Ac0 t)
section
variable{t:api_Table}{fds:List api_FD}{mvds:List api_MVD}
theorem Axb{n:Int}(h:basE n fds mvds=0):fds.length<=64/\mvds.length<=64:=by
 unfold basE at h
 split at h
 .rename_i h0
  split at h
  .cases h
  .refine ⟨?_,by omega⟩;unfold fdsE at h0
   split at h0
   .cases h0
   .split at h0
    .cases h0
    .omega
 .rename_i h0;exact absurd h h0
theorem Arj{n:Nat}(h:basE (n:Int) fds mvds=0):(∀d∈fds,sN d.Lhs<2^n/\sN d.Rhs<2^n)/\∀m∈mvds,inU n m.Lhs m.Rhs=true:=by
 unfold basE at h
 split at h
 .rename_i h0;refine⟨fun d hd=>?_,?_⟩
  .unfold fdsE at h0
   split at h0
   .cases h0
   .split at h0
    .cases h0
    .split at h0
     .rename_i h2;rw[yT]at h2;have:=h2 d hd;unfold inU at this;rw[zM,zG,decide_eq_true_eq,decide_eq_true_eq]at this;exact this
     .cases h0
  .split at h
   .cases h
   .split at h
    .rename_i h2;rw[yT]at h2;intro m hm;have:=h2 m hm
     rwa [zM]at this
    .cases h
 .rename_i h0;exact absurd h h0
theorem Bbr(ht:TV t){m:api_MVD}(hin:inU t.Attrs.length m.Lhs m.Rhs=true):Ajz t m=(mvB t (sN m.Lhs) (sN m.Rhs),0):=by
 unfold Ajz Agc;rw[if_pos (Ad6.2 ht),if_pos hin]
theorem q71_.spec(hn:TNum t)(hf:FdOK fds)(hm:Ah7 mvds):q71_.C t fds mvds (Aip t fds mvds):=by
 obtain⟨r,h1,h2⟩:=q71_.enter t fds mvds (fun r=>r=Aip t fds mvds) (by
  refine⟨_,q113_.spec,?_⟩;unfold Aip;by_cases h0:Ac0 t=0
  .rw [if_pos h0,if_pos h0];have ht:=Ad6.1 h0;refine⟨_,q114_.spec hf hm,?_⟩;by_cases hb:basE (t.Attrs.length:Int) fds mvds=0
   .rw [if_pos hb,if_pos hb];obtain⟨l1,l2⟩:=Axb hb;obtain⟨v1,v2⟩:=Arj hb;refine Akz (l:=fds) (P:=fun d=>SatP t (sN d.Lhs) (sN d.Rhs)) (L:=fun k=>q71_.L1 t fds mvds k _) (N:=(false,(0:Int))=(Aep t fds mvds,0)) (fun hall=>?_) (fun hno=>by rw[Akm fun h=>hno h.1]) (fun k d hd hk hy hno=>?_)
    .apply q71_.L1_step;rw[if_neg (by omega)];refine Akz (l:=mvds) (P:=fun d=>MvP t (sN d.Lhs) (sN d.Rhs)) (L:=fun k=>q71_.L2 t mvds k _) (N:=(false,(0:Int))=(Aep t fds mvds,0)) (fun hall2=>?_) (fun hno=>by rw[Akm fun h=>hno h.2]) (fun k m hm' hk hy hno=>?_)
     .apply q71_.L2_step;rw[if_neg (by omega),Anx.2 ⟨hall,hall2⟩]
     .apply q71_.L2_step;have hmm:=zB hm';rw[if_pos (by omega)];refine⟨m,Aau hm',_,q115_.spec hn (hm m hmm).1 (hm m hmm).2,?_⟩;rw[Bbr ht (v2 m hmm),Aa4 (by omega)];by_cases hM:MvP t (sN m.Lhs) (sN m.Rhs)
      .rw [if_pos (Ajp.2 hM)];exact hy hM
      .rw [if_neg (by rw[Bas hM];simp)];exact hno hM
    .apply q71_.L1_step;have hdm:=zB hd;have hlh:=hf d hdm;have hv:=v1 d hdm;rw[if_pos (by omega)];obtain⟨q,q1,q2,q3⟩:=q85_.spec (t:=t) (fd:=d) hn hlh.1.eq hlh.2.eq hlh.1.lt hlh.2.lt;refine⟨d,Aau hd,q,q1,?_⟩;have hE:Ajy t (sN d.Lhs) (sN d.Rhs)=0:=by
      unfold Ajy;rw[if_pos h0,if_pos (Aww.2 hv)]
     rw[Aa4 (by omega)];by_cases hS:SatP t (sN d.Lhs) (sN d.Rhs)
     .rw [if_pos (q3.2 ⟨hE,hS⟩)];exact hy hS
     .rw [if_neg fun h=>hS (q3.1 h).2];exact hno hS
   .rw [if_neg hb,if_neg hb]
  .rw [if_neg h0,if_neg h0])
 rw[<-h1];exact h2
theorem q70_.mixed(ht:TV t)(hf:FdOK fds)(hm:Ah7 mvds)(hb:basE (t.Attrs.length:Int) fds mvds=0):q70_.C t fds mvds (Aep t fds mvds):=by
 obtain⟨l1,l2⟩:=Axb hb;obtain⟨v1,v2⟩:=Arj hb;obtain⟨r,h1,h2⟩:=q70_.enter t fds mvds (fun r=>r=Aep t fds mvds) (by
  refine Akz (l:=fds) (P:=fun d=>SatP t (sN d.Lhs) (sN d.Rhs)) (L:=fun k=>q70_.L1 t fds mvds k _) (N:=false=Aep t fds mvds) (fun hall=>?_) (fun hno=>by rw[Akm fun h=>hno h.1]) (fun k d hd hk hy hno=>?_)
  .apply q70_.L1_step;rw[if_neg (by omega)];refine Akz (l:=mvds) (P:=fun d=>MvP t (sN d.Lhs) (sN d.Rhs)) (L:=fun k=>q70_.L2 t mvds k _) (N:=false=Aep t fds mvds) (fun hall2=>?_) (fun hno=>by rw[Akm fun h=>hno h.2]) (fun k m hm' hk hy hno=>?_)
   .apply q70_.L2_step;rw[if_neg (by omega),Anx.2 ⟨hall,hall2⟩]
   .apply q70_.L2_step;have hmm:=zB hm';rw[if_pos (by omega)];refine⟨m,Aau hm',_,q65_.spec ht (hm m hmm).1 (hm m hmm).2,?_⟩;unfold Agc;rw[if_pos (v2 m hmm),Aa4 (by omega)];by_cases hM:MvP t (sN m.Lhs) (sN m.Rhs)
    .rw [if_pos (Ajp.2 hM)];exact hy hM
    .rw [if_neg (by rw[Bas hM];simp)];exact hno hM
  .apply q70_.L1_step;have hdm:=zB hd;obtain⟨b,hb,hi⟩:=Atp ht (hf d hdm).1 (hf d hdm).2;rw[if_pos (by omega)];refine⟨d,Aau hd,b,hb,?_⟩;rw[Aa4 (by omega)];by_cases hS:SatP t (sN d.Lhs) (sN d.Rhs)
   .rw [if_pos (hi.2 hS)];exact hy hS
   .rw [if_neg fun h=>hS (hi.1 h)];exact hno hS)
 rw[<-h1];exact h2
theorem q37_.spec(hf:FdOK fds)(hm:Ah7 mvds):q37_.C t fds mvds (Aip t fds mvds):=by
 obtain⟨r,h1,h2⟩:=q37_.enter t fds mvds (fun r=>r=Aip t fds mvds) (by
  refine⟨_,q59_.spec,?_⟩;unfold Aip;by_cases h0:Ac0 t=0
  .rw [if_pos h0,if_pos h0];refine⟨_,q63_.spec hf hm,?_⟩;by_cases hb:basE (t.Attrs.length:Int) fds mvds=0
   .rw [if_pos hb,if_pos hb];exact⟨_,q70_.mixed (Ad6.1 h0) hf hm hb,rfl⟩
   .rw [if_neg hb,if_neg hb]
  .rw [if_neg h0,if_neg h0])
 rw[<-h1];exact h2
noncomputable def Ad1(t:api_Table)(fds:List api_FD)(mvds:List api_MVD)(g:api_MVD):Bool:=decide (Ac0 t=0)&&(decide (basE (t.Attrs.length:Int) fds mvds=0)&&(Aep t fds mvds&&(inU t.Attrs.length g.Lhs g.Rhs&&!mvB t (sN g.Lhs) (sN g.Rhs))))
theorem Aqg:(Aip t fds mvds=(false,Ac0 t)/\Ac0 t≠0)∨(Aip t fds mvds=(false,basE (t.Attrs.length:Int) fds mvds)/\Ac0 t=0/\basE (t.Attrs.length:Int) fds mvds≠0)∨(Aip t fds mvds=(Aep t fds mvds,0)/\Ac0 t=0/\basE (t.Attrs.length:Int) fds mvds=0):=by
 unfold Aip;by_cases h0:Ac0 t=0
 .by_cases hb:basE (t.Attrs.length:Int) fds mvds=0
  .exact .inr (.inr ⟨by rw[if_pos h0,if_pos hb],h0,hb⟩)
  .exact .inr (.inl ⟨by rw[if_pos h0,if_neg hb],h0,hb⟩)
 .exact .inl ⟨by rw[if_neg h0],h0⟩
theorem q109_.spec(hn:TNum t)(hf:FdOK fds)(hm:Ah7 mvds){g:api_MVD}(hl:U32 g.Lhs)(hr:U32 g.Rhs):q109_.C t fds mvds g (Ad1 t fds mvds g):=by
 obtain⟨r,h1,h2⟩:=q109_.enter t fds mvds g (fun r=>r=Ad1 t fds mvds g) (by
  refine⟨_,q71_.spec hn hf hm,?_⟩;unfold Ad1;rcases Aqg (t:=t) (fds:=fds) (mvds:=mvds)with⟨e,h0⟩|⟨e,h0,hb⟩|⟨e,h0,hb⟩
  .rw [e,if_neg h0];simp[h0]
  .rw [e,if_neg hb];simp[hb]
  .rw [e,if_pos rfl];cases hB:Aep t fds mvds with
   |false=>rw[if_neg (by simp)];simp
   |true=>
    rw[if_pos rfl];refine⟨_,q115_.spec hn hl hr,?_⟩;unfold Ajz Agc;rw[if_pos h0];by_cases hin:inU t.Attrs.length g.Lhs g.Rhs=true
    .rw [if_pos hin,if_pos rfl];simp[h0,hb,hin]
    .rw [if_neg hin,if_neg (by decide)]
     simp[hin])
 rw[<-h1];exact h2
theorem q72_.spec(hf:FdOK fds)(hm:Ah7 mvds){g:api_MVD}(hl:U32 g.Lhs)(hr:U32 g.Rhs):q72_.C t fds mvds g (Ad1 t fds mvds g):=by
 obtain⟨r,h1,h2⟩:=q72_.enter t fds mvds g (fun r=>r=Ad1 t fds mvds g) (by
  refine⟨_,q37_.spec hf hm,?_⟩;unfold Ad1;rcases Aqg (t:=t) (fds:=fds) (mvds:=mvds)with⟨e,h0⟩|⟨e,h0,hb⟩|⟨e,h0,hb⟩
  .rw [e,if_neg h0];simp[h0]
  .rw [e,if_neg hb];simp[hb]
  .rw [e,if_pos rfl];have ht:=Ad6.1 h0;cases hB:Aep t fds mvds with
   |false=>rw[if_neg (by simp)];simp
   |true=>
    rw[if_pos rfl];refine⟨_,q54_.spec ht.na hl hr,?_⟩;by_cases hin:inU t.Attrs.length g.Lhs g.Rhs=true
    .rw [if_pos hin];refine⟨_,q65_.spec ht hl hr,?_⟩;unfold Agc;rw[if_pos hin];simp[h0,hb,hin]
    .rw [if_neg hin]
     simp[hin])
 rw[<-h1];exact h2
end
def cmpZ:List Int->List Int->Int
 |[],[]=>0
 |[],_::_=>-1
 |_::_,[]=>1
 |a::l,b::m=>if a<b then -1 else if b<a then 1 else cmpZ l m
theorem Auw:∀l:List Int,cmpZ l l=0
 |[]=>rfl
 |a::l=>by simp only[cmpZ];rw[if_neg (by omega),if_neg (by omega),Auw l]
theorem Anz:∀{l m:List Int},cmpZ l m=0->l=m
 |[],[],_=>rfl
 |[],_::_,h=>by simp[cmpZ]at h
 |_::_,[],h=>by simp[cmpZ]at h
 |a::l,b::m,h=>by
  simp only[cmpZ]at h
  split at h
  .cases h
  .split at h
   .cases h
   .rw [Anz h,show a=b by omega]
theorem Aux:∀{l m:List Int},cmpZ m l =-cmpZ l m
 |[],[]=>rfl
 |[],_::_=>rfl
 |_::_,[]=>rfl
 |a::l,b::m=>by
  simp only[cmpZ];by_cases h1:a<b
  .rw [if_neg (by omega),if_pos h1,if_pos h1];rfl
  .by_cases h2:b<a
   .rw [if_pos h2,if_neg h1,if_pos h2]
   .rw [if_neg h2,if_neg h1,if_neg h1,if_neg h2];exact Aux
theorem Arn:∀{l m k:List Int},cmpZ l m<0->cmpZ m k<0->cmpZ l k<0
 |[],_,[],h1,h2=>by
  rename_i m;cases m with
  |nil=>simp[cmpZ]at h1
  |cons b m=>simp[cmpZ]at h2
 |[],_,_::_,_,_=>by simp[cmpZ]
 |_::_,[],_,h1,_=>by simp[cmpZ]at h1
 |_::_,_::_,[],_,h2=>by simp[cmpZ]at h2
 |a::l,b::m,c::k,h1,h2=>by
  simp only[cmpZ]at h1 h2⊢;by_cases hab:a<b
  .by_cases hbc:b<c
   .rw [if_pos (by omega)];decide
   .rw [if_neg hbc]at h2;by_cases hcb:c<b
    .rw [if_pos hcb]at h2;cases h2
    .rw [if_pos (by omega)];decide
  .rw [if_neg hab]at h1;by_cases hba:b<a
   .rw [if_pos hba]at h1;cases h1
   .rw [if_neg hba]at h1;by_cases hbc:b<c
    .rw [if_pos (by omega)];decide
    .rw [if_neg hbc]at h2;by_cases hcb:c<b
     .rw [if_pos hcb]at h2;cases h2
     .rw [if_neg hcb]at h2;rw[if_neg (by omega),if_neg (by omega)];exact Arn h1 h2
def ltZ(a b:List Int):Prop:=a.length<b.length∨(a.length=b.length/\cmpZ a b<0)
theorem Au2{a:List Int}:¬ltZ a a:=fun h=>by
 rcases h with h|⟨_,h⟩
 .omega
 .rw [Auw]at h;cases h
theorem Avs{a b c:List Int}(h1:ltZ a b)(h2:ltZ b c):ltZ a c:=by
 rcases h1 with h1|⟨h1,g1⟩<;>rcases h2 with h2|⟨h2,g2⟩
 .exact .inl (by omega)
 .exact .inl (by omega)
 .exact .inl (by omega)
 .exact .inr ⟨by omega,Arn g1 g2⟩
theorem Bea{a b:List Int}(h1:¬ltZ a b)(h2:¬ltZ b a):a=b:=by
 unfold ltZ at h1 h2;have hl:a.length=b.length:=by
  false_or_by_contra
  rcases Nat.lt_or_ge a.length b.length with h|h
  .exact h1 (.inl h)
  .exact h2 (.inl (by omega))
 refine Anz ?_;have e:=Aux (l:=a) (m:=b);have g1:¬cmpZ a b<0:=fun h=>h1 (.inr ⟨hl,h⟩);have g2:¬cmpZ b a<0:=fun h=>h2 (.inr ⟨hl.symm,h⟩);omega
theorem Ban{x:Int}:q87_.C x false:=by
 obtain⟨r,h1,h2⟩:=q87_.enter x (fun r=>r=false) (by simp);rw[<-h1];exact h2
theorem Bmx{x y:Int}:q55_.C x y (cmpI x y):=by
 obtain⟨r,h1,h2⟩:=q55_.enter x y (fun r=>r=cmpI x y) ⟨_,Ban,_,Ban,by
  rw[if_neg zQ,if_neg zQ];unfold cmpI
  split
  .rfl
  .split<;>rfl⟩
 rw[<-h1];exact h2
theorem Auv{x y:Int}{l m:List Int}:cmpZ (x::l) (y::m)=if cmpI x y=0 then cmpZ l m else cmpI x y:=by
 simp only[cmpZ];unfold cmpI;by_cases h1:x<y
 .rw [if_pos h1,if_pos h1,if_neg (by decide)]
 .by_cases h2:y<x
  .rw [if_neg h1,if_pos h2,if_neg h1,if_pos h2,if_neg (by decide)]
  .rw [if_neg h1,if_neg h2,if_neg h1,if_neg h2,if_pos rfl]
theorem q26_.same{a b:List Int}(hl:a.length=b.length)(hs:a.length<1000000):q26_.C a b (cmpZ a b):=by
 obtain⟨r,h1,h2⟩:=q26_.enter a b (fun r=>r=cmpZ a b) (by
  have go:∀k,k<=a.length->cmpZ (a.drop k) (b.drop k)=cmpZ a b->q26_.L1 a b (k:Int) (fun r=>r=cmpZ a b):=by
   refine down ?_ ?_
   .intro hc;apply q26_.L1_step;rw[if_neg (by omega),if_neg (by omega),<-hc,zW,hl,zW];rfl
   .intro k hk ih hc;apply q26_.L1_step;have hk2:k<b.length:=by omega
    rw[if_pos (by omega)];refine⟨a[k],Aau (zA hk),?_⟩;rw[if_neg (by omega)];refine⟨b[k],Aau (zA hk2),_,Bmx,?_⟩;rw[zI hk,zI hk2,Auv]at hc;by_cases h0:cmpI a[k] b[k]=0
    .rw [if_pos h0,Aa4 (by omega)];rw[if_pos h0]at hc;exact ih hc
    .rw [if_neg h0];rw[if_neg h0]at hc;exact hc
  exact go 0 (zL _) (by simp))
 rw[<-h1];exact h2
theorem q56_.spec{a b:List Int}(hs:a.length<1000000):∃r,q56_.C a b r/\(r=true↔ltZ a b):=by
 obtain⟨r,h1,h2⟩:=q56_.enter a b (fun r=>(r=true↔ltZ a b)) (by
  by_cases hl:a.length=b.length
  .rw [if_pos (by omega)];have go:∀k,k<=a.length->cmpZ (a.drop k) (b.drop k)=cmpZ a b->q56_.L1 a b (k:Int) (fun r=>(r=true↔ltZ a b)):=by
    refine down ?_ ?_
    .intro hc;apply q56_.L1_step;rw[if_neg (by omega)];rw[zW,hl,zW]at hc;have hc:(0:Int)=cmpZ a b:=hc;constructor
     .intro h;cases h
     .rintro (h|⟨_,h⟩)<;>omega
    .intro k hk ih hc;apply q56_.L1_step;have hk2:k<b.length:=by omega
     rw[if_pos (by omega)];refine⟨a[k],Aau (zA hk),b[k],Aau (zA hk2),?_⟩;rw[zI hk,zI hk2,Auv]at hc;by_cases h0:a[k]=b[k]
     .rw [if_pos h0,Aa4 (by omega)];rw[if_pos (Afe.2 h0)]at hc;exact ih hc
     .rw [if_neg h0];rw[if_neg fun h=>h0 (Afe.1 h)]at hc;unfold cmpI at hc;rw[decide_eq_true_eq];constructor
      .intro hlt;rw[if_pos hlt]at hc;exact .inr ⟨hl,by rw[<-hc];decide⟩
      .rintro (h|⟨_,h⟩)
       .omega
       .rw [<-hc]at h
        false_or_by_contra
        rename_i hn;rw[if_neg hn]at h
        split at h<;>cases h
   exact go 0 (zL _) (by simp)
  .rw [if_neg (by omega),decide_eq_true_eq];constructor
   .intro h;exact .inl (by omega)
   .rintro (h|⟨h,_⟩)
    .omega
    .exact absurd h hl)
 exact⟨r,h2,h1⟩
def idsN(t:api_Table)(s:Nat):List Int:=((zR t.Rows.length).filter fun i=>s.testBit i).filterMap fun i=>(t.Rows[i]?).map api_Row.ID
theorem Ave{t:api_Table}{s:Nat}(hr:t.Rows.length<=32):(Aag s).filterMap (fun i=>(t.Rows[i]?).map api_Row.ID)=idsN t s:=by
 unfold Aag idsN;obtain⟨m,hm⟩:∃m,32=t.Rows.length+m:=⟨32-t.Rows.length,by omega⟩
 rw[hm,List.range_add,yP,zN];have:((List.map (t.Rows.length+·) (zR m)).filter fun i=>s.testBit i).filterMap (fun i=>(t.Rows[i]?).map api_Row.ID)=[]:=by
  rw[List.filterMap_eq_nil_iff];intro i hi;obtain⟨j,_,rfl⟩:=yB.1 (zO.1 hi).1;rw[List.getElem?_eq_none (by omega)];rfl
 rw[this,List.append_nil]
theorem Ay3{t:api_Table}{s:Nat}(hr:t.Rows.length<=32)(hs:s<2^t.Rows.length):(idsN t s).length=szN s:=by
 unfold szN;rw[<-Ave hr];have:∀l:List Nat,(∀i∈l,i<t.Rows.length)->(l.filterMap fun i=>(t.Rows[i]?).map api_Row.ID).length=l.length:=by
  intro l
  induction l with
  |nil=>intro _;rfl
  |cons a l ih=>
   intro h;rw[List.filterMap_cons,zA (h a (by simp))];simp only[Option.map_some,List.length_cons];rw[ih fun i hi=>h i (by simp[hi])]
 refine this _ fun i hi=>Ayk.1 hs i ?_;unfold Aag at hi;exact(zO.1 hi).2
theorem Atw{t:api_Table}{s:Nat}:(idsN t s).length<=t.Rows.length:=by
 unfold idsN;refine zP (zK _ _) (zP (yK _ _) (by simp))
theorem Bfw{t:api_Table}{s:Nat}{x:Int}:x∈idsN t s↔∃(i:Nat)(r:api_Row),t.Rows[i]?=some r/\s.testBit i=true/\r.ID=x:=by
 unfold idsN;rw[yO];constructor
 .rintro ⟨i,hi,h⟩;obtain⟨r,h1,h2⟩:=Option.map_eq_some_iff.1 h;exact⟨i,r,h1,(zO.1 hi).2,h2⟩
 .rintro ⟨i,r,h1,h2,rfl⟩;have:=(zC.1 h1).1;exact⟨i,zO.2 ⟨yV.2 this,h2⟩,by rw[h1];rfl⟩
theorem Bgm{t:api_Table}:Acb t (idsN t (2^t.Rows.length-1))=t:=by
 unfold Acb;have:t.Rows.filter (fun r=>decide (r.ID∈idsN t (2^t.Rows.length-1)))=t.Rows:=by
  rw[List.filter_eq_self];intro r hr;rw[decide_eq_true_eq,Bfw];obtain⟨i,hi,rfl⟩:=yL hr;exact⟨i,_,zA hi,by rw[zZ];exact decide_eq_true hi,rfl⟩
 rw[this]
theorem q95_.spec{t:api_Table}{s:Nat}(hr:t.Rows.length<=20)(hs:s<2^20):q95_.C t s (idsN t s):=by
 obtain⟨r,h1,h2⟩:=q95_.enter t s (fun r=>r=idsN t s) (by
  have go:∀k,k<=t.Rows.length->q95_.L1 t s (((zR k).filter fun i=>s.testBit i).filterMap fun i=>(t.Rows[i]?).map api_Row.ID) (k:Int) (fun r=>r=idsN t s):=by
   refine down ?_ ?_
   .apply q95_.L1_step;rw[if_neg (by omega)];rfl
   .intro k hk h;have hlen:(((zR k).filter fun i=>s.testBit i).filterMap fun i=>(t.Rows[i]?).map api_Row.ID).length<=20:=zP (zK _ _) (zP (yK _ _) (by simp;omega));have e:Int.tmod (shrw .i64 (s:Int) (k:Int)) 2=(((s / 2^k)%2:Nat):Int):=by
     rw[Adj (by simp only[top];omega)];generalize s / 2^k=q;rw[Int.tmod_eq_emod_of_nonneg (by omega)];omega
    have hg:=zA hk;rw[List.range_succ,yP,zN]at h;apply q95_.L1_step;rw[if_pos (by omega)];refine⟨by omega,?_⟩;have hb:((s / 2^k)%2=1)↔s.testBit k=true:=by
     rw[Nat.testBit_eq_decide_div_mod_eq,decide_eq_true_eq]
    rw[e];by_cases hbt:s.testBit k=true
    .rw [if_pos (by rw[hb.2 hbt];rfl)];refine⟨t.Rows[k],Aau hg,by omega,?_⟩;apply q95_.L2_step;rw[Aa4 (by omega)];simpa[hbt,hg]using h
    .rw [if_neg fun h=>hbt (hb.1 (by omega))];apply q95_.L2_step;rw[Aa4 (by omega)];simpa[hbt]using h
  exact go 0 (zL _))
 rw[<-h1];exact h2
section
variable{t:api_Table}{fds:List api_FD}{mvds:List api_MVD}{g:api_MVD}
def okS(t:api_Table)(fds:List api_FD)(mvds:List api_MVD)(g:api_MVD)(s:Nat):Prop:=Ad1 (Acb t (idsN t s)) fds mvds g=true
structure MinS(t:api_Table)(fds:List api_FD)(mvds:List api_MVD)(g:api_MVD)(a:List Int):Prop where
 is:∃s,s<2^t.Rows.length/\a=idsN t s/\okS t fds mvds g s
 min:∀s,s<2^t.Rows.length->okS t fds mvds g s->¬ltZ (idsN t s) a
theorem MinS.eq{a b:List Int}(h1:MinS t fds mvds g a)(h2:MinS t fds mvds g b):a=b:=by
 obtain⟨s1,l1,e1,o1⟩:=h1.is;obtain⟨s2,l2,e2,o2⟩:=h2.is;refine Bea ?_ ?_
 .rw [e1];exact h2.min s1 l1 o1
 .rw [e2];exact h1.min s2 l2 o2
theorem Bal(h:Ad1 t fds mvds g=true):okS t fds mvds g (2^t.Rows.length-1):=by
 unfold okS;rw[Bgm];exact h
theorem q41_.spec(hf:FdOK fds)(hm:Ah7 mvds)(hl:U32 g.Lhs)(hr:U32 g.Rhs):(Ad1 t fds mvds g=false/\q41_.C t fds mvds g (⟨⟨#[]⟩,[],[]⟩,1))∨(Ad1 t fds mvds g=true/\10<t.Rows.length/\q41_.C t fds mvds g (⟨⟨#[]⟩,[],[]⟩,3))∨(Ad1 t fds mvds g=true/\t.Rows.length<=10/\∃a,MinS t fds mvds g a/\q41_.C t fds mvds g (Acb t a,0)):=by
 have hck:=q72_.spec (t:=t) hf hm hl hr;cases hc:Ad1 t fds mvds g with
 |false=>
  obtain⟨r,h1,h2⟩:=q41_.enter t fds mvds g (fun r=>r=((⟨⟨#[]⟩,[],[]⟩:api_Table),(1:Int))) ⟨_,hck,by rw[hc,if_neg zQ]⟩;rw[h1]at h2;exact .inl ⟨rfl,h2⟩
 |true=>
  by_cases h10:10<t.Rows.length
  .obtain ⟨r,h1,h2⟩:=q41_.enter t fds mvds g (fun r=>r=((⟨⟨#[]⟩,[],[]⟩:api_Table),(3:Int))) ⟨_,hck,by rw[hc,if_pos rfl,if_pos (by omega)]⟩;rw[h1]at h2;exact .inr (.inl ⟨rfl,h10,h2⟩)
  .have ht:TV t:=by
    unfold Ad1 at hc;rw[zG,decide_eq_true_eq]at hc;exact Ad6.1 hc.1
   have hp:2^t.Rows.length<=2^10:=zF (by decide) (by omega);have hp0:=yF t.Rows.length;have e1:shlw .i64 1 (t.Rows.length:Int)=((2^t.Rows.length:Nat):Int):=An8 (k:=.i64) (by simp only[top];omega);obtain⟨r,⟨a,ha,h1⟩,h2⟩:=q41_.enter t fds mvds g (fun r=>∃a,MinS t fds mvds g a/\r=(Acb t a,(0:Int))) ⟨_,hck,by
    rw[hc,if_pos rfl,if_neg (by omega)];refine⟨by omega,idsN t (2^t.Rows.length-1),?_,?_⟩
    .have e2:IntKind.wrap .i64 (shlw .i64 1 (t.Rows.length:Int)-1)=((2^t.Rows.length-1:Nat):Int):=by
      rw[e1,IntKind.wrap_i64];omega
     rw[e2];exact q95_.spec (by omega) (by omega)
    .have go:∀k,k<=2^t.Rows.length->∀a,(∃s,s<2^t.Rows.length/\a=idsN t s/\okS t fds mvds g s)->(∀s,s<k->okS t fds mvds g s->¬ltZ (idsN t s) a)->q41_.L1 t fds mvds g a (k:Int) (fun r=>∃a,MinS t fds mvds g a/\r=(Acb t a,(0:Int))):=by
      refine down ?_ ?_
      .intro a h1 h2;obtain⟨s,hs,ea,ho⟩:=h1;have hal:a.length<=t.Rows.length:=by rw[ea];exact Atw
       apply q41_.L1_step;refine⟨by omega,?_⟩;rw[e1,if_neg (by omega)];exact⟨_,q89_.spec ht (by omega),a,⟨⟨s,hs,ea,ho⟩,h2⟩,rfl⟩
      .intro k hk ih a h1 h2;obtain⟨s,hs,ea,ho⟩:=h1;have hil:=Atw (t:=t) (s:=k);obtain⟨b,hb,hbi⟩:=q56_.spec (a:=idsN t k) (b:=a) (by omega);have next:∀a',(∃s,s<2^t.Rows.length/\a'=idsN t s/\okS t fds mvds g s)->(∀s,s<k+1->okS t fds mvds g s->¬ltZ (idsN t s) a')->q41_.L2 t fds mvds g a' (k:Int) (fun r=>∃a,MinS t fds mvds g a/\r=(Acb t a,(0:Int))):=fun a' g1 g2=>by
        apply q41_.L2_step;rw[Aa4 (by omega)];exact ih a' g1 g2
       have old:(okS t fds mvds g k->¬ltZ (idsN t k) a)->∀s,s<k+1->okS t fds mvds g s->¬ltZ (idsN t s) a:=fun hk' s hs' ho'=>by
        by_cases hsk:s=k
        .subst hsk;exact hk' ho'
        .exact h2 s (by omega) ho'
       apply q41_.L1_step;refine⟨by omega,?_⟩;rw[e1,if_pos (by omega)];refine⟨_,q95_.spec (by omega) (by omega),b,hb,?_⟩;by_cases hbt:b=true
       .rw [if_pos hbt];have hlt:=hbi.1 hbt;refine⟨_,q89_.spec ht (by omega),_,q72_.spec hf hm hl hr,?_⟩;by_cases hok:Ad1 (Acb t (idsN t k)) fds mvds g=true
        .rw [if_pos hok];refine next _ ⟨k,hk,rfl,hok⟩ fun s hs' ho' hl'=>?_;by_cases hsk:s=k
         .subst hsk;exact Au2 hl'
         .exact h2 s (by omega) ho' (Avs hl' hlt)
        .rw [if_neg hok];exact next a ⟨s,hs,ea,ho⟩ (old fun h=>absurd h hok)
       .rw [if_neg hbt];exact next a ⟨s,hs,ea,ho⟩ (old fun _ h=>hbt (hbi.2 h))
     exact go 0 (zL _) _ ⟨_,by omega,rfl,Bal hc⟩ fun s hs=>absurd hs (yG s)⟩
   rw[h1]at h2;exact .inr (.inr ⟨rfl,by omega,a,ha,h2⟩)
theorem Bjn(ht:TV t):¬t.Name.toList=(⟨#[]⟩:ByteArray).toList:=fun h=>by
 have hn:=ht.name;unfold Ahp at hn;rw[h,Axe]at hn;cases hn
inductive Found(t:api_Table)(fds:List api_FD)(mvds:List api_MVD)(g:api_MVD)(Z:List Int)(k:Nat):ByteArray->List ByteArray->List api_Row->List Int->Prop where
 |none (h:∀(j s:Nat),j<k->Z[j]?=some (s:Int)->¬okS t fds mvds g s):Found t fds mvds g Z k ⟨#[]⟩ [] [] []
 |some (a:List Int) (h1:∃j s:Nat,j<k/\Z[j]?=some (s:Int)/\a=idsN t s/\okS t fds mvds g s) (h2:∀(j s:Nat),j<k->Z[j]?=some (s:Int)->okS t fds mvds g s->¬ltZ (idsN t s) a):Found t fds mvds g Z k t.Name t.Attrs (Acb t a).Rows a
theorem q90_.spec(hn:TNum t)(hf:FdOK fds)(hm:Ah7 mvds)(hl:U32 g.Lhs)(hr:U32 g.Rhs):(Ad1 t fds mvds g=false/\q90_.C t fds mvds g (⟨⟨#[]⟩,[],[]⟩,1))∨(Ad1 t fds mvds g=true/\10<t.Rows.length/\q90_.C t fds mvds g (⟨⟨#[]⟩,[],[]⟩,3))∨(Ad1 t fds mvds g=true/\t.Rows.length<=10/\∃a,MinS t fds mvds g a/\q90_.C t fds mvds g (Acb t a,0)):=by
 have hck:=q109_.spec (t:=t) hn hf hm hl hr;cases hc:Ad1 t fds mvds g with
 |false=>
  obtain⟨r,h1,h2⟩:=q90_.enter t fds mvds g (fun r=>r=((⟨⟨#[]⟩,[],[]⟩:api_Table),(1:Int))) ⟨_,hck,by rw[hc,if_neg zQ]⟩;rw[h1]at h2;exact .inl ⟨rfl,h2⟩
 |true=>
  by_cases h10:10<t.Rows.length
  .obtain ⟨r,h1,h2⟩:=q90_.enter t fds mvds g (fun r=>r=((⟨⟨#[]⟩,[],[]⟩:api_Table),(3:Int))) ⟨_,hck,by rw[hc,if_pos rfl,if_pos (by omega)]⟩;rw[h1]at h2;exact .inr (.inl ⟨rfl,h10,h2⟩)
  .have ht:TV t:=by
    unfold Ad1 at hc;rw[zG,decide_eq_true_eq]at hc;exact Ad6.1 hc.1
   have hp:2^t.Rows.length<=2^10:=zF (by decide) (by omega);have hp0:=yF t.Rows.length;have s32:2^t.Rows.length-1<2^32:=by omega
   have hsub:=q84_.spec s32;have eZ:At4 (2^t.Rows.length-1)=ordL (subL (2^t.Rows.length-1)):=by
    unfold At4;rw[At5 _ (by omega),if_neg (by omega)]
   rw[eZ]at hsub;have hU:=An9 s32;have hZm:∀y,y∈ordL (subL (2^t.Rows.length-1))↔∃n:Nat,y=n/\n<2^t.Rows.length:=fun y=>by
    rw[An2 hU,Ar7 s32];refine exists_congr fun n=>and_congr Iff.rfl ?_;rw[Nat.and_two_pow_sub_one_eq_mod];constructor
    .intro h;rw[<-h];exact Nat.mod_lt _ hp0
    .exact Nat.mod_eq_of_lt
   have hZa:=An1 hU;have hZl:(ordL (subL (2^t.Rows.length-1))).length<1000000:=by
    rw[Bck s32,At5 _ (by omega)];omega
   generalize ordL (subL (2^t.Rows.length-1))=Z at hsub hZm hZa hZl;have hsz:∀(i j a b:Nat),i<j->Z[i]?=some (a:Int)->Z[j]?=some (b:Int)->szN a<=szN b:=fun i j a b hij hi hj=>by
    obtain⟨hi1,hi2⟩:=zC.1 hi;obtain⟨hj1,hj2⟩:=zC.1 hj;have:=List.pairwise_iff_getElem.1 hZa i j hi1 hj1 hij;rw[hi2,hj2]at this;have la:=(hZm (a:Int)).1 (zB hi);have lb:=(hZm (b:Int)).1 (zB hj);obtain⟨a',ea,la⟩:=la;obtain⟨b',eb,lb⟩:=lb;have:=(Bao (U32.of (n:=a) (by omega)) (U32.of (n:=b) (by omega))).1 this;simp only[Asy]at this;omega
   obtain⟨r,⟨a,ha,h1⟩,h2⟩:=q90_.enter t fds mvds g (fun r=>∃a,MinS t fds mvds g a/\r=(Acb t a,(0:Int))) ⟨_,hck,by
    rw[hc,if_pos rfl,if_neg (by omega)];refine⟨by omega,Z,by rw[Ayt (by omega)];exact hsub,?_⟩;have go:∀k,k<=Z.length->∀nm at_ rw_ le_,Found t fds mvds g Z k nm at_ rw_ le_->q90_.L1 t fds mvds g nm at_ rw_ le_ Z (k:Int) (fun r=>∃a,MinS t fds mvds g a/\r=(Acb t a,(0:Int))):=by
     refine down ?_ ?_
     .intro nm at_ rw_ le_ hF;apply q90_.L1_step;rw[if_neg (by omega)];have fullZ:∃j:Nat,j<Z.length/\Z[j]?=some ((2^t.Rows.length-1:Nat):Int):=by
       obtain⟨j,hj⟩:=zX ((hZm _).2 ⟨2^t.Rows.length-1,rfl,by omega⟩);exact⟨j,(zC.1 hj).1,hj⟩
      obtain⟨j,hj,hjz⟩:=fullZ;cases hF with
      |none h=>exact absurd (Bal hc) (h j _ hj hjz)
      |some a h1 h2=>
       obtain⟨j,s,hj,hs,ea,ho⟩:=h1;obtain⟨s',es,hs'⟩:=(hZm _).1 (zB hs);refine⟨le_,⟨⟨s,by omega,ea,ho⟩,fun u hu hou=>?_⟩,rfl⟩;obtain⟨i,hi⟩:=zX ((hZm _).2 ⟨u,rfl,hu⟩);exact h2 i u (zC.1 hi).1 hi hou
     .intro k hk ih nm at_ rw_ le_ hF;have hget:=zA hk;obtain⟨s,es,hs⟩:=(hZm _).1 (zE hk);rw[es]at hget;have hs32:s<2^32:=by omega
      apply q90_.L1_step;rw[if_pos (by omega)];refine⟨(s:Int),Aau hget,_,q76_.spec hs32,?_⟩;have hil:=Atw (t:=t) (s:=s);have bl:=Afz (n:=s);have next:∀nm' at' rw' le',Found t fds mvds g Z (k+1) nm' at' rw' le'->q90_.L3 t fds mvds g nm' at' rw' le' Z (k:Int) (fun r=>∃a,MinS t fds mvds g a/\r=(Acb t a,(0:Int))):=fun nm' at' rw' le' h=>by
       apply q90_.L3_step;rw[Aa4 (by omega)];exact ih nm' at' rw' le' h
      have uniq:∀s':Nat,Z[k]?=some (s':Int)->s'=s:=fun s' h=>by
       rw[hget]at h;have:=Option.some.inj h;omega
      have try_:(¬okS t fds mvds g s->Found t fds mvds g Z (k+1) nm at_ rw_ le_)->(okS t fds mvds g s->Found t fds mvds g Z (k+1) t.Name t.Attrs (Acb t (idsN t s)).Rows (idsN t s))->q90_.L4 t fds mvds g nm at_ rw_ le_ (idsN t s) Z (k:Int) (fun r=>∃a,MinS t fds mvds g a/\r=(Acb t a,(0:Int))):=fun g1 g2=>by
       apply q90_.L4_step;refine⟨Acb t (idsN t s),q118_.spec ht (by omega),_,q109_.spec (Beh hn) hf hm hl hr,?_⟩;by_cases ho:Ad1 (Acb t (idsN t s)) fds mvds g=true
       .rw [if_pos ho];exact next _ _ _ _ (g2 ho)
       .rw [if_neg ho];exact next _ _ _ _ (g1 ho)
      have ids:∀j,j<=(Aag s).length->q90_.L2 t fds mvds g nm at_ rw_ le_ (((Aag s).take j).filterMap fun i=>(t.Rows[i]?).map api_Row.ID) Z (k:Int) ((Aag s).map fun(i:Nat)=>(i:Int)) (j:Int) (fun r=>∃a,MinS t fds mvds g a/\r=(Acb t a,(0:Int))):=by
       refine down ?_ ?_
       .apply q90_.L2_step;rw[zD,if_neg (by omega),zV,Ave (by omega)];cases hF with
        |none h=>
         rw[if_pos rfl];refine try_ (fun ho=>.none fun j s' hj hs'=>?_) (fun ho=>.some _ ⟨k,s,by omega,hget,rfl,ho⟩ fun j s' hj hs' ho'=>?_)
         .by_cases hjk:j=k
          .subst hjk;rw[uniq s' hs'];exact ho
          .exact h j s' (by omega) hs'
         .by_cases hjk:j=k
          .subst hjk;rw[uniq s' hs'];exact Au2
          .exact absurd ho' (h j s' (by omega) hs')
        |some a h1 h2=>
         rw[if_neg (Bjn ht)];obtain⟨j0,s0,hj0,hs0,ea,ho0⟩:=h1;obtain⟨s0',es0,hs0l⟩:=(hZm _).1 (zB hs0);have hs0l:s0<2^t.Rows.length:=by omega
         have hla:le_.length<=(idsN t s).length:=by
          rw[ea,Ay3 (by omega) hs0l,Ay3 (by omega) hs];exact hsz j0 k s0 s hj0 hs0 hget
         have skip:¬ltZ (idsN t s) le_->Found t fds mvds g Z (k+1) t.Name t.Attrs (Acb t le_).Rows le_:=fun hno=>.some le_ ⟨j0,s0,by omega,hs0,ea,ho0⟩ fun j s' hj hs' ho'=>by
          by_cases hjk:j=k
          .subst hjk;rw[uniq s' hs'];exact hno
          .exact h2 j s' (by omega) hs' ho'
         by_cases hll:(le_.length:Int)<((idsN t s).length:Int)
         .rw [if_pos hll];refine next _ _ _ _ (skip fun h=>?_);rcases h with h|⟨h,_⟩<;>omega
         .rw [if_neg hll];refine⟨_,q26_.same (by omega) (by omega),?_⟩;by_cases hcm:0<cmpZ (idsN t s) le_
          .rw [if_pos hcm];refine next _ _ _ _ (skip fun h=>?_);rcases h with h|⟨_,h⟩<;>omega
          .rw [if_neg hcm];refine try_ (fun ho=>.some le_ ⟨j0,s0,by omega,hs0,ea,ho0⟩ fun j s' hj hs' ho'=>?_) (fun ho=>.some _ ⟨k,s,by omega,hget,rfl,ho⟩ fun j s' hj hs' ho' hlt=>?_)
           .by_cases hjk:j=k
            .subst hjk;rw[uniq s' hs']at ho';exact absurd ho' ho
            .exact h2 j s' (by omega) hs' ho'
           .by_cases hjk:j=k
            .subst hjk;rw[uniq s' hs']at hlt;exact Au2 hlt
            .refine h2 j s' (by omega) hs' ho' ?_;by_cases hz:cmpZ (idsN t s) le_=0
             .rw [<-Anz hz];exact hlt
             .exact Avs hlt (.inr ⟨by omega,by omega⟩)
       .intro j hj h;apply q90_.L2_step;rw[zD,if_pos (by omega)];have hgb:=zA hj;have hib:(Aag s)[j]<t.Rows.length:=Ayk.1 hs _ ((Acm hs32).1 (zE hj));generalize(Aag s)[j]=i at hgb hib;have hgr:=zA hib;have hl2:(((Aag s).take j).filterMap fun i=>(t.Rows[i]?).map api_Row.ID).length<=32:=zP (zK _ _) (by rw[zU];omega);refine⟨(i:Int),by rw[Abk,zS,hgb];rfl,t.Rows[i],Aau hgr,by omega,?_⟩;rw[Aa4 (by omega)];have e:(((Aag s).take (j+1)).filterMap fun i=>(t.Rows[i]?).map api_Row.ID)=(((Aag s).take j).filterMap fun i=>(t.Rows[i]?).map api_Row.ID)++[(t.Rows[i]).ID]:=by
         rw[yA,hgb,zN];simp[hgr]
        rw[e]at h;exact h
      exact ids 0 (zL _)
    exact go 0 (zL _) _ _ _ _ (.none fun j s hj=>absurd hj (yG j))⟩
   rw[h1]at h2;exact .inr (.inr ⟨rfl,by omega,a,ha,h2⟩)
end
end Go.Own
namespace Go.Own
set_option maxRecDepth 1000000
namespace awkT
def bR(n:Nat):List Nat->Nat->List api_Row
 |[],_=>[]
 |r::R,k=>⟨((k+1:Nat):Int),rowV n r⟩::bR n R (k+1)
def T1:api_Table:=⟨⟨#[116]⟩,abcK.take 3,bR 3 [0,4] 0⟩
def T2:api_Table:=⟨⟨#[116]⟩,abcK.take 3,bR 3 [0,6,4,2] 0⟩
theorem m1:q121_.C 3 [⟨1,2⟩] ⟨1,4⟩ (T1,0):=Ret.of (n:=400) (by kernel_rfl)
theorem m2:q102_.C 3 [⟨1,2⟩] ⟨1,4⟩ (T1,0):=Ret.of (n:=400) (by kernel_rfl)
theorem m3:q111_.C 3 [] [⟨1,2⟩] ⟨1,2⟩ (T2,0):=Ret.of (n:=400) (by kernel_rfl)
theorem m4:q121_.C 3 [⟨1,2⟩] ⟨5,2⟩ (⟨⟨#[]⟩,[],[]⟩,10):=Ret.of (n:=400) (by kernel_rfl)
theorem m5:q69_.C T1 T1 true:=Ret.of (n:=400) (by kernel_rfl)
theorem m6:q59_.C T2 0:=Ret.of (n:=400) (by kernel_rfl)
theorem m7:q70_.C T2 [] [⟨1,2⟩] true:=Ret.of (n:=400) (by kernel_rfl)
theorem m8:q35_.C T2 ⟨1,2⟩ false:=Ret.of (n:=400) (by kernel_rfl)
end awkT
theorem Bd4:q73_.C true:=by
 obtain⟨r,e1,e2⟩:=q73_.enter (fun r=>r=true) (by
  refine⟨_,awkT.m1,_,awkT.m2,_,awkT.m3,_,awkT.m4,?_⟩;rw[if_pos rfl];refine⟨_,awkT.m5,?_⟩;rw[if_pos rfl,if_pos (by decide),if_pos rfl];refine⟨_,awkT.m6,?_⟩;rw[if_pos rfl,if_pos (by decide)];refine⟨_,awkT.m7,?_⟩;rw[if_pos rfl];refine⟨_,awkT.m8,?_⟩;rw[if_neg (by decide)]
  rfl)
 subst e1;exact e2
end Go.Own
namespace Go.Own
namespace drosslaw20_RefuteSmallest
theorem numOf{t:api_Table}(h:Ak7 t):TNum t:=fun r hr v hv=>Bkh ((h.2.2.2 r hr).2.2 v hv).2.1
theorem again{φ:Bool->Prop}(h:φ true):L1 φ:=L1_step φ ⟨true,Bd4,h⟩
theorem empty_eq:q69_.C ⟨⟨#[]⟩,[],[]⟩ ⟨⟨#[]⟩,[],[]⟩ true:=q69_.self (by decide) (by decide) (fun r hr=>by cases hr)
theorem both(x:drosslaw20_Claim)(hn:TNum x.T)(hf:FdOK x.FDs)(hm:Ah7 x.MVDs)(hl:U32 x.Goal.Lhs)(hr:U32 x.Goal.Rhs):L2 x (fun r=>r=true):=by
 apply L2_step;rcases q90_.spec hn hf hm hl hr with⟨c1,h1⟩|⟨c1,n1,h1⟩|⟨c1,n1,a,ha,h1⟩<;>rcases q41_.spec (t:=x.T) hf hm hl hr with⟨c2,h2⟩|⟨c2,n2,h2⟩|⟨c2,n2,b,hb,h2⟩
 .refine ⟨_,h1,_,h2,?_⟩;rw[if_pos rfl];exact⟨_,empty_eq,rfl⟩
 .rw [c1]at c2;cases c2
 .rw [c1]at c2;cases c2
 .rw [c1]at c2;cases c2
 .refine ⟨_,h1,_,h2,?_⟩;rw[if_pos rfl];exact⟨_,empty_eq,rfl⟩
 .omega
 .rw [c1]at c2;cases c2
 .omega
 .have e:=ha.eq hb;subst e;refine⟨_,h1,_,h2,?_⟩;rw[if_pos rfl];have ht:TV x.T:=by
   unfold Ad1 at c1;rw[zG,decide_eq_true_eq]at c1;exact Ad6.1 c1.1
  have hT:=Bgl ht (ids:=a);have na:=hT.na;have nr:=hT.nr;refine⟨_,q69_.self (t:=Acb x.T a) (by unfold Big;omega) (by unfold Big;omega) (fun r hr=>⟨by rw[hT.len hr];unfold Big;omega,fun v hv=>?_⟩),rfl⟩;have:=Ap4 (hT.val hr v hv);unfold Big;omega
theorem spec(x:drosslaw20_Claim)(hn:TNum x.T)(hf:FdOK x.FDs)(hm:Ah7 x.MVDs)(hl:U32 x.Goal.Lhs)(hr:U32 x.Goal.Rhs):C x true:=by
 obtain⟨r,e1,e2⟩:=enter x (fun r=>r=true) (by
  have hb:=both x hn hf hm hl hr;have hg:=again (φ:=fun r=>r=true) rfl;refine⟨true,Bd4,?_⟩;rw[if_pos rfl]
  split
  .split
   .exact hg
   .split
    .exact hg
    .split
     .exact hg
     .split
      .exact hg
      .exact hb
  .split
   .exact hg
   .split
    .exact hg
    .split
     .exact hg
     .exact hb)
 subst e1;exact e2
theorem law{xs:List D}(hx:Akl env.P Aiw Aix xs):Ret env Aiv xs (.lit (.bool true)) []:=
 Ai4 (fun x0 h0=>spec x0 (numOf h0.1) (fun d hd=>⟨Am7 (h0.2.1.2 d hd).1,Am7 (h0.2.1.2 d hd).2⟩) (fun d hd=>⟨Am7 (h0.2.2.1.2 d hd).1,Am7 (h0.2.2.1.2 d hd).2⟩) (Am7 h0.2.2.2.1) (Am7 h0.2.2.2.2)) hx
end drosslaw20_RefuteSmallest
end Go.Own
