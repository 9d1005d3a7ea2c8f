/- What the functions answer. No conditions. -/
import Derived.Test.YtmiedlcblpiemaaGreatDoorRefuteMVDLaw12
import Derived.Test.YtmiedlcblpiemaaGreatDoorRefuteMVDLaw13
import Derived.Test.YtmiedlcblpiemaaGreatDoorRefuteMVDLaw1
set_option linter.all false
open List renaming getElem?_eq_getElem->zA,mem_of_getElem?->zB,getElem?_eq_some_iff->zD,length_append->zG,length_map->zH,getElem?_of_mem->zL,getElem_mem->zM,getElem?_map->zP,append_assoc->zQ,singleton_append->zR,mem_map->zS,nil_append->zU,mem_append->zV,take_add_one->zX,length_take->zZ,all_eq_true->yA,length_singleton->yB,mem_singleton->yC,nodup_append->yD,take_length->yE,map_map->yF,length_cons->yG,mem_filter->yH,take_of_length_le->yI,cons_append->yM,length_drop->yN,any_eq_true->yO,range->yP,map_append->yS,length_nil->yT
open Nat renaming lt_of_le_of_lt->zC,pow_le_pow_right->zE,lt_of_lt_of_le->zN,le_refl->zT,not_lt_zero->zW,or_lt_two_pow->zY,testBit_or->yJ,pow_pos->yK,zero_le->yL,two_pow_pos->yR,testBit_and->yU,testBit_xor->yV
open Bool renaming and_eq_true->zF,false_eq_true->zI,eq_iff_iff->zK,or_eq_true->yQ
open Int renaming toNat_natCast->zO
namespace Go.Own
def ltS(x y:Int):Bool:=decide (keyS x<keyS y)
def Bl9:Go.Sort.SWO ltS where
 irrefl:=fun x=>by unfold ltS;simp
 trans:=fun x y z h1 h2=>by unfold ltS at *;simp only[decide_eq_true_eq]at *;omega
 ntrans:=fun x y z h1 h2=>by unfold ltS at *;simp only[decide_eq_false_iff_not]at *;omega
def q74_.sP{x y:Int}:q74_.C x y (cmpI x y):=by
 obtain⟨f1,g1,k1⟩:=q88_.nt x (fun r=>r=false) (by simp);obtain⟨f2,g2,k2⟩:=q88_.nt y (fun r=>r=false) (by simp);subst g1 g2;obtain⟨r,h1,h2⟩:=q74_.nt x y (fun r=>r=cmpI x y) (by
  refine⟨_,k1,_,k2,?_⟩;rw[if_neg (by decide),if_neg (by decide)];unfold cmpI
  split
  .rfl
  .split<;>rfl)
 rw[<-h1];exact h2
def q28_.sP{x y:Int}:q28_.C x y (cmpI x y):=by
 obtain⟨f1,g1,k1⟩:=q43_.nt x (fun r=>r=false) (by simp);obtain⟨f2,g2,k2⟩:=q43_.nt y (fun r=>r=false) (by simp);subst g1 g2;obtain⟨r,h1,h2⟩:=q28_.nt x y (fun r=>r=cmpI x y) (by
  refine⟨_,k1,_,k2,?_⟩;rw[if_neg (by decide),if_neg (by decide)];unfold cmpI
  split
  .rfl
  .split<;>rfl)
 rw[<-h1];exact h2
def q114_.two{a b:Int}:q114_.C [a,b] (if a=0 then b else a):=by
 obtain⟨r,h1,h2⟩:=q114_.nt [a,b] (fun r=>r=if a=0 then b else a) (by
  apply q114_.K1;rw[if_pos (by simp)];refine⟨a,rfl,?_⟩;by_cases ha:a=0
  .rw [if_pos ha];apply q114_.K1;have e:IntKind.wrap .i64 ((0:Int)+1)=1:=by decide
   rw[e,if_pos (by simp)];refine⟨b,rfl,?_⟩;by_cases hb:b=0
   .rw [if_pos hb];apply q114_.K1;have e:IntKind.wrap .i64 ((1:Int)+1)=2:=by decide
    rw[e,if_neg (by simp),if_pos ha,hb]
   .rw [if_neg hb,if_pos ha]
  .rw [if_neg ha,if_neg ha])
 rw[<-h1];exact h2
def Bjm:Alo U32 ltS q75_.C:=fun x y hx hy=>by
 obtain⟨r,h1,h2⟩:=q75_.nt x y (fun r=>r<0↔ltS x y=true) (by
  refine⟨_,q102_.sP hx,_,q102_.sP hy,_,q74_.sP,_,q28_.sP,_,q114_.two,?_⟩;unfold ltS;rw[decide_eq_true_eq,Bl6 hx hy];have ex:=hx.eq;have ey:=hy.eq;unfold cmpI;generalize szN (sN x)=s at *;generalize szN (sN y)=t at *;by_cases h1:(s:Int)<t
  .rw [if_pos h1,if_neg (by decide)];omega
  .rw [if_neg h1];by_cases h2:(t:Int)<s
   .rw [if_pos h2,if_neg (by decide)];omega
   .rw [if_neg h2,if_pos rfl]
    split
    .omega
    .split<;>omega)
 exact⟨r,h2,h1⟩
def Aot:∀(l:List Int)(a b:Int),Ab4 (l++[a]++[b])=if a=b then Ab4 (l++[a])else Ab4 (l++[a])++[b]
 |[],a,b=>by
  simp only[zU,zR,Ab4]
  split<;>simp_all
 |[c],a,b=>by
  simp only[zR,yM,zU,Ab4]
  split<;>split<;>simp_all
 |c::d::r,a,b=>by
  have ih:=Aot (d::r) a b;simp only[yM,Ab4]at ih⊢;rw[ih]
  split<;>split<;>simp
def Ak0{l:List Int}{m:Nat}{a:Int}(h:l[m]?=some a):l.take (m+1)=l.take m++[a]:=by
 rw[zX,h];rfl
def Aph{l:List Int}{m:Nat}{a b:Int}(ha:l[m]?=some a)(hb:l[m+1]?=some b):Ab4 (l.take (m+2))=if a=b then Ab4 (l.take (m+1))else Ab4 (l.take (m+1))++[b]:=by
 have e1:l.take (m+2)=l.take m++[a]++[b]:=by rw[Ak0 (m:=m+1) hb,Ak0 ha]
 rw[e1,Ak0 ha,Aot]
namespace q14_
def inner{l:List Int}{o:Nat}{J:List Int×Bool->Prop}(ho:1<=o)(hol:o<l.length)(hl:l.length<4611686018427387904)(h:∀b,J (Ab4 l,b))(n:Nat):∀(s:List Int)(k k2:Nat),l.length-o-k2<=n->1<=k2->o+k2<=l.length->s.length=l.length->k<=o+k2-1->s.take k=Ab4 (l.take (o+k2))->(∀i,o+k2-1<=i->s[i]?=l[i]?)->L2 s k o (l.length-o) k2 J:=by
 have hend:∀(s:List Int)(k k2:Nat),o+k2=l.length->s.length=l.length->k<=o+k2-1->s.take k=Ab4 (l.take (o+k2))->L2 s k o (l.length-o) k2 J:=fun s k k2 hk2 hs hk ht=>by
  apply K2;refine⟨by omega,?_⟩;rw[if_neg (by rw[zZ,yN];omega)];refine⟨by omega,⟨by omega,by omega⟩,by omega,by omega,by omega,by omega,⟨by omega,by omega,by omega⟩,?_⟩;rw[zO];have e:s.take k=Ab4 l:=by rw[ht,yI (by omega)]
  rw[e];exact h _
 induction n with
 |zero=>intro s k k2 hn h1 hk2 hs hk ht hd;exact hend s k k2 (by omega) hs hk ht
 |succ n ih=>
  intro s k k2 hn h1 hk2 hs hk ht hd;by_cases hlt:o+k2<l.length
  .apply K2;refine⟨by omega,?_⟩;rw[if_pos (by rw[zZ,yN];omega)];obtain⟨b,hb⟩:∃b,l[o+k2]?=some b:=⟨_,zA hlt⟩
   obtain⟨a,ha⟩:∃a,l[o+k2-1]?=some a:=⟨_,zA (by omega)⟩
   have e1:(o:Int)+(k2:Int)=((o+k2:Nat):Int):=by omega
   have e2:IntKind.wrap .i64 ((k2:Int)-1)=((k2-1:Nat):Int):=wx _ _ (by omega) (by omega);have e3:(o:Int)+((k2-1:Nat):Int)=((o+k2-1:Nat):Int):=by omega
   have e4:IntKind.wrap .i64 ((k2:Int)+1)=((k2+1:Nat):Int):=wx _ _ (by omega) (by omega);have e5:IntKind.wrap .i64 ((k:Int)+1)=((k+1:Nat):Int):=wx _ _ (by omega) (by omega);rw[e1,e2,e3];have hstep:=Aph (l:=l) (m:=o+k2-1) ha (by rw[show o+k2-1+1=o+k2 by omega];exact hb);rw[show o+k2-1+2=o+(k2+1) by omega,show o+k2-1+1=o+k2 by omega]at hstep;refine⟨b,by rw[Ac6,hd _ (by omega)];exact hb,⟨by omega,by omega⟩,by omega,a,by rw[Ac6,hd _ (by omega)];exact ha,⟨by omega,by omega⟩,by omega,?_⟩;by_cases hab:b=a
   .rw [if_pos hab];apply K3;rw[e4];rw[if_pos hab.symm]at hstep;exact ih s k (k2+1) (by omega) (by omega) (by omega) hs (by omega) (by rw[ht,hstep]) (fun i hi=>hd i (by omega))
   .rw [if_neg hab];rw[if_neg (fun h=>hab h.symm)]at hstep;obtain⟨c,hc⟩:∃c,s[k]?=some c:=⟨_,zA (by omega)⟩
    refine⟨⟨by omega,by omega⟩,by omega,c,by rw[Ac6];exact hc,?_⟩;apply K3;rw[e4,e5];have hls:lset s (k:Int) b=s.set k b:=by unfold lset;rw[zO]
    rw[hls];refine ih (s.set k b) (k+1) (k2+1) (by omega) (by omega) (by omega) (by rw[List.length_set];exact hs) (by omega) ?_ (fun i hi=>?_)
    .rw [hstep,<-ht,Ak0 (a:=b) (by rw[List.getElem?_set_self (by omega)])];congr 1;rw[List.take_set_of_le (zT k)]
    .rw [List.getElem?_set_ne (by omega)];exact hd i (by omega)
  .exact hend s k k2 (by omega) hs hk ht
def outer{l:List Int}{J:List Int×Bool->Prop}(hl:l.length<4611686018427387904)(h:∀b,J (Ab4 l,b))(n:Nat):∀i,l.length-i<=n->1<=i->i<=l.length->Ab4 (l.take i)=l.take i->L1 l i J:=by
 induction n with
 |zero=>
  intro i hn h1 hi hc;apply K1;rw[if_neg (by omega)];have e:i=l.length:=by omega
  rw[e,yE]at hc;have:=h true
  rwa [hc]at this
 |succ n ih=>
  intro i hn h1 hi hc;by_cases hlt:i<l.length
  .apply K1;rw[if_pos (by omega)];obtain⟨b,hb⟩:∃b,l[i]?=some b:=⟨_,zA hlt⟩
   obtain⟨a,ha⟩:∃a,l[i-1]?=some a:=⟨_,zA (by omega)⟩
   have e2:IntKind.wrap .i64 ((i:Int)-1)=((i-1:Nat):Int):=wx _ _ (by omega) (by omega);have e4:IntKind.wrap .i64 ((i:Int)+1)=((i+1:Nat):Int):=wx _ _ (by omega) (by omega);rw[e2,e4];have hstep:=Aph (l:=l) (m:=i-1) ha (by rw[show i-1+1=i by omega];exact hb);rw[show i-1+2=i+1 by omega,show i-1+1=i by omega]at hstep;refine⟨b,by rw[Ac6];exact hb,a,by rw[Ac6];exact ha,?_⟩;by_cases hab:b=a
   .rw [if_pos hab];rw[if_pos hab.symm]at hstep;refine⟨by omega,⟨by omega,by omega⟩,?_⟩;rw[zO];exact inner (o:=i) h1 hlt hl h (l.length-i-1) l i 1 (zT _) (zT _) (by omega) rfl (by omega) (by rw[hstep,hc]) (fun _ _=>rfl)
   .rw [if_neg hab];rw[if_neg (fun h=>hab h.symm)]at hstep;exact ih (i+1) (by omega) (by omega) (by omega) (by rw[hstep,hc,Ak0 hb])
  .apply K1;rw[if_neg (by omega)];have e:i=l.length:=by omega
   rw[e,yE]at hc;have:=h true
   rwa [hc]at this
def sP{l:List Int}(hl:l.length<4611686018427387904):∃b,C l (Ab4 l,b):=by
 obtain⟨r,⟨b,rfl⟩,h2⟩:=nt l (fun r=>∃b,r=(Ab4 l,b)) (by
  split
  .rename_i h;refine⟨true,?_⟩
   match l,h with
   |[],_=>rfl
   |[a],_=>rfl
   |_::_::_,h=>simp at h;omega
  .rename_i h;have:1<=l.length:=by omega
   exact outer hl (fun b=>⟨b,rfl⟩) (l.length-1) 1 (by omega) (by omega) this (by
    obtain⟨a,r,rfl⟩:∃a r,l=a::r:=by cases l with
     |nil=>simp at this
     |cons a r=>exact⟨a,r,rfl⟩
    rfl))
 exact⟨b,h2⟩
end q14_
def q91_.sP{l:List Int}{x:Int}(hl:l.length<9223372036854775807):q91_.C l x (decide (x∈l)):=by
 obtain⟨r,h1,h2⟩:=q91_.nt l x (fun r=>r=decide (x∈l)) (by
  have e:decide (x∈l)=l.any fun a=>a==x:=by
   rw[zK];simp
  rw[e];refine Bh8 (l:=l) (p:=fun a=>a==x) (L:=fun i=>q91_.L1 l x i _) (J:=fun r=>r=l.any fun a=>a==x) ?_ ?_ rfl
  .intro h;apply q91_.K1;rw[if_neg (by omega)];exact h
  .intro k a ha hk h;apply q91_.K1;rw[if_pos (by omega)];refine⟨a,Ab6 ha,?_⟩;rw[Aa5 (by omega)];by_cases hax:a=x
   .rw [if_pos hax];rw[if_pos (by simpa using hax)]at h;exact h
   .rw [if_neg hax];rw[if_neg (by simpa using hax)]at h;exact h)
 rw[<-h1];exact h2
def Ara{n:Nat}(hn:n<=16):2^n<=65536/\0<2^n:=⟨zE (n:=2) (by omega) hn,yK (by omega)⟩
def keyR(t:api_Table)(m i:Nat):ByteArray:=Abf (pick ((t.Rows[i]?).map (·.Values) |>.getD []) m)
def Aex{t:api_Table}{m i:Nat}(hi:i<t.Rows.length):keyR t m i=Abf (pick (t.Rows[i]).Values m):=by
 unfold keyR;rw[zA hi];rfl
section
variable{t:api_Table}
def Blj{m i k:Nat}(ht:TV t)(hm:m<2^32)(hi:i<t.Rows.length)(hk:k<t.Rows.length):pick (t.Rows[i]).Values m=pick (t.Rows[k]).Values m↔∀a,m.testBit a=true->EqA t i k a:=by
 rw[<-Aj6 ht hm hi hk];unfold Ae2;rw[zP,zP,zA hi,zA hk];simp
def Ana{m i:Nat}(ht:TV t)(hn:TNum t)(hi:i<t.Rows.length):∀v∈pick (t.Rows[i]).Values m,Ab2 v=true/\Ak5 v:=fun v hv=>
 ⟨ht.val (zM hi) v (Agf v hv),hn _ (zM hi) v (Agf v hv)⟩
def Avz{m i k:Nat}(ht:TV t)(hi:i<t.Rows.length)(hk:k<t.Rows.length):(pick (t.Rows[i]).Values m).length=(pick (t.Rows[k]).Values m).length:=
 Azl (by rw[ht.len (zM hi),ht.len (zM hk)])
def Ajq{m i k:Nat}(ht:TV t)(hn:TNum t)(hm:m<2^32)(hi:i<t.Rows.length)(hk:k<t.Rows.length):keyR t m i=keyR t m k↔∀a,m.testBit a=true->EqA t i k a:=by
 rw[Aex hi,Aex hk,Apv (Avz ht hi hk) (Ana ht hn hi) (Ana ht hn hk),Blj ht hm hi hk]
def Bl7{p q i k:Nat}(ht:TV t)(hn:TNum t)(hi:i<t.Rows.length)(hk:k<t.Rows.length)(h:keyR t p i++keyR t q i=keyR t p k++keyR t q k):keyR t p i=keyR t p k/\keyR t q i=keyR t q k:=by
 rw[Aex hi,Aex hi,Aex hk,Aex hk]at *;rw[Apw,Apw]at h;have l1:=Avz (m:=p) ht hi hk;have l2:=Avz (m:=q) ht hi hk;have:=(Apv (by rw[zG,zG,l1,l2]) (fun v hv=>by
  rcases zV.1 hv with hv|hv
  .exact Ana ht hn hi v hv
  .exact Ana ht hn hi v hv) (fun v hv=>by
  rcases zV.1 hv with hv|hv
  .exact Ana ht hn hk v hv
  .exact Ana ht hn hk v hv)).1 h
 obtain⟨h1,h2⟩:=List.append_inj this l1;rw[h1,h2];exact⟨rfl,rfl⟩
def grpK(t:api_Table)(l:Nat)(s:ByteArray):List Nat:=(yP t.Rows.length).filter fun i=>keyR t l i==s
def Aga{l i:Nat}{s:ByteArray}:i∈grpK t l s↔i<t.Rows.length/\keyR t l i=s:=by
 unfold grpK;rw[yH,List.mem_range,Adl]
def okG(t:api_Table)(l p q:Nat)(s:ByteArray):Prop:=(dd ((grpK t l s).map (keyR t p))).length*(dd ((grpK t l s).map (keyR t q))).length=(dd ((grpK t l s).map fun i=>keyR t p i++keyR t q i)).length
def Ble{l r:Nat}(ht:TV t)(hn:TNum t)(hl:l<2^t.Attrs.length)(hr:r<2^t.Attrs.length):(∀i,i<t.Rows.length->okG t l (Aa7 r l) (Aa7 (2^t.Attrs.length-1) (l ||| r)) (keyR t l i))↔MvP t l r:=by
 have na:=ht.na;have hp:=Ara na;have hR:Aa7 r l<2^32:=zC Adf (by omega);have hS:Aa7 (2^t.Attrs.length-1) (l ||| r)<2^32:=zC Adf (by omega);have all:∀s,okG t l (Aa7 r l) (Aa7 (2^t.Attrs.length-1) (l ||| r)) s↔∀x∈grpK t l s,∀y∈grpK t l s,∃z∈grpK t l s,keyR t (Aa7 r l) z=keyR t (Aa7 r l) x/\keyR t (Aa7 (2^t.Attrs.length-1) (l ||| r)) z=keyR t (Aa7 (2^t.Attrs.length-1) (l ||| r)) y:=fun s=>
  Bfs fun x hx y hy h=>Bl7 ht hn (Aga.1 hx).1 (Aga.1 hy).1 h
 have bitS:∀a,(Aa7 (2^t.Attrs.length-1) (l ||| r)).testBit a=true↔a<t.Attrs.length/\(l ||| r).testBit a=false:=fun a=>by
  rw[Aa9,Nat.testBit_two_pow_sub_one,zF,decide_eq_true_eq,Bool.not_eq_true']
 constructor
 .intro h i k hi hk he;have hki:=(Ajq ht hn (show l<2^32 by omega) hi hk).2 he;obtain⟨j,hj,e1,e2⟩:=(all _).1 (h i hi) i (Aga.2 ⟨hi,rfl⟩) k (Aga.2 ⟨hk,hki.symm⟩);obtain⟨hjl,hjk⟩:=Aga.1 hj;refine⟨j,hjl,fun a ha=>?_,fun a ha hb=>(Ajq ht hn hS hjl hk).1 e2 a ((bitS a).2 ⟨ha,hb⟩)⟩;by_cases hla:l.testBit a=true
  .exact (Ajq ht hn (show l<2^32 by omega) hjl hi).1 hjk a hla
  .refine (Ajq ht hn hR hjl hi).1 e1 a ?_;rw[yJ,yQ]at ha;rw[Aa9,(ha.resolve_left hla)];simpa using hla
 .intro h i hi;refine(all _).2 fun x hx y hy=>?_;obtain⟨hxl,hxk⟩:=Aga.1 hx;obtain⟨hyl,hyk⟩:=Aga.1 hy;obtain⟨j,hjl,e1,e2⟩:=h x y hxl hyl ((Ajq ht hn (show l<2^32 by omega) hxl hyl).1 (hxk.trans hyk.symm));refine⟨j,Aga.2 ⟨hjl,?_⟩,(Ajq ht hn hR hjl hxl).2 fun a ha=>e1 a ?_,(Ajq ht hn hS hjl hyl).2 fun a ha=>?_⟩
  .rw [<-hxk];exact(Ajq ht hn (show l<2^32 by omega) hjl hxl).2 fun a ha=>e1 a (by rw[yJ,ha];rfl)
  .rw [Aa9,zF]at ha;rw[yJ,ha.1,Bool.or_true]
  .obtain ⟨h1,h2⟩:=(bitS a).1 ha;exact e2 a h1 h2
end
namespace q92_
end q92_
namespace q59_
end q59_
def Asu{n:Nat}(hn:n<=16):IntKind.wrap .u32 (shlw .u32 1 (n:Int)-1)=((2^n-1:Nat):Int):=by
 have hp:=Ara hn;have e:shlw .u32 1 (n:Int)=((2^n:Nat):Int):=Asz (k:=.u32) (by simp only[top];omega);rw[e,show(((2^n:Nat):Int)-1)=((2^n-1:Nat):Int) by omega];exact Ae0 (k:=.u32) (by simp only[top];omega)
def Atx{n:Nat}(hn:n<=16):Adh n=2^n-1:=by unfold Adh;rw[Nat.min_eq_left (by omega)]
def Aqb{E:Env}{f:Nat}{p:List D->Option (D×List D)}{q:List D->Ask}{ds:List D}{r:D}{outs:List D}(h1:E.prim f=some p)(h2:p ds=none)(h3:E.hand f=some q)(h4:∃N,∀n,N<=n->runAsk (Abu E n) (q ds)=some (r,outs)):Ret E f ds r outs:=by
 obtain⟨N,hN⟩:=h4;refine⟨N+1,fun m hm=>?_⟩;obtain⟨k,rfl⟩:∃k,m=k+1:=⟨m-1,by omega⟩
 simp only[Abu,h1,h2,h3];exact hN k (by omega)
def t32H{a:Nat}(h:a<2^32):a<2^top .u32:=by simpa[top]using h
namespace q117_
def sP{t:api_Table}(ht:TV t){r:api_Row}(hr:r∈t.Rows){n:Nat}(hn:n<2^t.Attrs.length):C r n (Abf (pick r.Values n)):=by
 have hn32:n<2^32:=zN hn (zE (by decide) (by have:=ht.na;omega));have hl:=Afd (n:=n);obtain⟨q,h1,h2⟩:=nt r n (fun q=>q=Abf (pick r.Values n)) (by
  refine⟨_,q69_.sP hn32,?_⟩;have loop:∀j,j<=(Aal n).length->L1 r (Abf (((Aal n).take j).filterMap fun i=>r.Values[i]?)) ((Aal n).map fun(i:Nat)=>(i:Int)) (j:Int) fun q=>q=Abf (pick r.Values n):=by
   refine down ?_ ?_
   .apply K1;rw[zH,if_neg (by omega),yE];rfl
   .intro j hj h;apply K1;rw[zH,if_pos (by omega)];have hget:=zA hj;generalize(Aal n)[j]=i at hget;have hi:=(Abk hn32).1 (zB hget);have hilt:i<t.Attrs.length:=by
     false_or_by_contra
     rename_i hh;rw[Nat.testBit_lt_two_pow (zN hn (zE (by decide) (by omega)))]at hi;cases hi
    have hrl:=ht.len hr;have hv:=zA (l:=r.Values) (i:=i) (by omega);generalize r.Values[i]'(by omega)=v at hv;have hval:=ht.val hr v (zB hv);refine⟨(i:Int),by rw[Ac6,zP,hget];rfl,v,Ab6 hv,(keyW v,0),q116_.sP hval,?_,?_⟩
    .have a1:=Apu (l:=((Aal n).take j).filterMap fun i=>r.Values[i]?) (fun v hv=>by
      obtain⟨i,_,hi⟩:=List.mem_filterMap.1 hv
      exact ht.val hr v (zB hi))
     have a2:(((Aal n).take j).filterMap fun i=>r.Values[i]?).length<=32:=Nat.le_trans (List.length_filterMap_le _ _) (by rw[zZ];omega);have a3:=Ao7 hval;rw[Au9,Ax9];omega
    .rw [Aa5 (by omega)];have e:(((Aal n).take (j+1)).filterMap fun i=>r.Values[i]?)=(((Aal n).take j).filterMap fun i=>r.Values[i]?)++[v]:=by
      rw[zX,hget,List.filterMap_append];simp[hv]
     rw[e]at h;simp only[Bi3,Apw];exact h
  have:=loop 0 (yL _)
  simpa[Abf,Adj,bstr]using this)
 rw[<-h1];exact h2
end q117_
def row3(l p q:Nat)(r:api_Row):Key3:=(Abf (pick r.Values l),Abf (pick r.Values p),Abf (pick r.Values q))
def Ayw{t:api_Table}(ht:TV t){l p q:Nat}(hl:l<2^t.Attrs.length)(hp:p<2^t.Attrs.length)(hq:q<2^t.Attrs.length)(k:List Key3->Ask):∀(rs:List api_Row),(∀r∈rs,r∈t.Rows)->∃N,∀m,N<=m->∀acc,runAsk (Abu env m) (Ahr Hol.keyF l p q k (rs.map Aa2) acc)=runAsk (Abu env m) (k (acc++rs.map (row3 l p q)))
 |[],_=>⟨0,fun m _ acc=>by simp[Ahr]⟩
 |r::rs,h=>by
  obtain⟨N,hN⟩:=Ayw ht hl hp hq k rs fun r hr=>h r (by simp[hr]);have hr:=h r (by simp);obtain⟨N1,h1⟩:=q117_.sP ht hr hl;obtain⟨N2,h2⟩:=q117_.sP ht hr hp;obtain⟨N3,h3⟩:=q117_.sP ht hr hq;refine⟨N+N1+N2+N3,fun m hm acc=>?_⟩;have k1:Abu env m Hol.keyF [.agg [.lit (.int .i64 r.ID),.sl (r.Values.map Aa1)],.lit (.int .u32 l)]=some (.lit (.string (Abf (pick r.Values l))),[]):=h1 m (by omega);have k2:Abu env m Hol.keyF [.agg [.lit (.int .i64 r.ID),.sl (r.Values.map Aa1)],.lit (.int .u32 p)]=some (.lit (.string (Abf (pick r.Values p))),[]):=h2 m (by omega);have k3:Abu env m Hol.keyF [.agg [.lit (.int .i64 r.ID),.sl (r.Values.map Aa1)],.lit (.int .u32 q)]=some (.lit (.string (Abf (pick r.Values q))),[]):=h3 m (by omega);have z1:=Ba3 (l:=r.Values) (n:=p) fun v hv=>ht.val hr v hv;have z2:=Ba3 (l:=r.Values) (n:=q) fun v hv=>ht.val hr v hv;have e:(r::rs).map Aa2=[.lit (.int .i64 r.ID),.sl (r.Values.map Aa1)]::rs.map Aa2:=rfl;rw[e];simp only[Ahr,runAsk,k1,k2,k3];rw[if_pos (by omega),hN m (by omega)];simp[row3]
def Bii{t:api_Table}{l p q:Nat}:okH (t.Rows.map (row3 l p q))=true↔∀i,i<t.Rows.length->okG t l p q (keyR t l i):=by
 have e:t.Rows.map (row3 l p q)=(yP t.Rows.length).map fun i=>(keyR t l i,keyR t p i,keyR t q i):=by
  apply List.ext_getElem
  .simp
  .intro i h1 h2;simp only[List.getElem_map,List.getElem_range];rw[zH]at h1;rw[Aex h1,Aex h1,Aex h1];rfl
 have eg:∀s,grpH (t.Rows.map (row3 l p q)) s=(grpK t l s).map fun i=>(keyR t l i,keyR t p i,keyR t q i):=fun s=>by
  rw[e];unfold grpH grpK;rw[List.filter_map];exact congrArg _ (List.filter_congr fun i _=>Eq.refl (keyR t l i==s))
 have eo:∀s,okK (t.Rows.map (row3 l p q)) s↔okG t l p q s:=fun s=>by
  unfold okK set1 set2 set3 okG;rw[eg];simp only[yF];exact Iff.rfl
 rw[Avy];constructor
 .intro h i hi;rw[Aex hi];have hm:=h (row3 l p q t.Rows[i]) (zS.2 ⟨t.Rows[i],zM hi,rfl⟩);simp only[row3]at hm;exact(eo _).1 hm
 .intro h x hx;obtain⟨r,hr,rfl⟩:=zS.1 hx;obtain⟨i,hi,rfl⟩:=List.getElem_of_mem hr;have:=h i hi;rw[Aex hi]at this;simp only[row3];exact(eo _).2 this
noncomputable def Al0(t:api_Table)(m:api_MVD):Bool×Int:=if Acf t=0 then Afo t m else(false,Acf t)
def q111_.sP{t:api_Table}(hn:TNum t){m:api_MVD}(hl:U32 m.Lhs)(hr:U32 m.Rhs):q111_.C t m (Al0 t m):=by
 obtain⟨N,hN⟩:=q109_.sP (t:=t);have kv:∀j,N<=j->Abu env j Hol.valF [.agg [.lit (.string t.Name),.sl (t.Attrs.map eS),.sl (t.Rows.map Aa2)]]=some (.lit (.int .i64 (Acf t)),[]):=fun j hj=>hN j hj;by_cases h0:Acf t=0
 .have ht:=Ae3.1 h0;have na:=ht.na;have pw:=Ara na;have p16:2^t.Attrs.length<=2^16:=zE (by decide) na;have p0:=yR t.Attrs.length;have eor:=orI hl hr;have hor:sN m.Lhs ||| sN m.Rhs<2^32:=zY hl.lt hr.lt
  have eshr:shrw .u32 (bOr .u32 m.Lhs m.Rhs) ((t.Attrs.map eS).length:Int)=(((sN m.Lhs ||| sN m.Rhs) / 2^t.Attrs.length:Nat):Int):=by
   rw[zH,eor];exact Adz (t32H hor)
  by_cases hin:inU t.Attrs.length m.Lhs m.Rhs=true
  .have hlt:=Au2.1 hin;have hl2:sN m.Lhs<2^t.Attrs.length:=zC Nat.left_le_or hlt;have hr2:sN m.Rhs<2^t.Attrs.length:=zC Nat.right_le_or hlt;have hp2:Aa7 (sN m.Rhs) (sN m.Lhs)<2^t.Attrs.length:=zC Adf hr2;have hq2:Aa7 (2^t.Attrs.length-1) (sN m.Lhs ||| sN m.Rhs)<2^t.Attrs.length:=zC Adf (by omega);have e1:Afq m.Lhs m.Rhs=((Aa7 (sN m.Rhs) (sN m.Lhs):Nat):Int):=by
    unfold Afq
    conv=>lhs;rw[hl.eq,hr.eq]
    exact Abp hr.top hl.top
   have e2:Ahi ((t.Attrs.map eS).length:Int) m.Lhs m.Rhs=((Aa7 (2^t.Attrs.length-1) (sN m.Lhs ||| sN m.Rhs):Nat):Int):=by
    unfold Ahi;rw[zH,eor,Asu na];exact Abp (t32H (by omega)) (t32H hor)
   obtain⟨N2,hN2⟩:=Ayw ht hl2 hp2 hq2 (fun L=>.ret (some (resH (okH L) 0,[]))) t.Rows fun r hr=>hr;refine Aqb (p:=fun _=>none) (q:=Ae6 Hol.valF Hol.keyF) (by kernel_rfl) rfl (by kernel_rfl) ⟨N+N2,fun j hj=>?_⟩;simp only[Ae6,runAsk,kv j (by omega),h0,if_true];rw[if_pos (by rw[eshr,Nat.div_eq_of_lt hlt];rfl),if_pos (by rw[zH];have:=ht.nr;omega),e1,e2];have:=hN2 j (by omega) [];rw[<-hl.eq]at this;rw[this];simp only[runAsk,zU];have hok:okH (t.Rows.map (row3 (sN m.Lhs) (Aa7 (sN m.Rhs) (sN m.Lhs)) (Aa7 (2^t.Attrs.length-1) (sN m.Lhs ||| sN m.Rhs))))=mvB t (sN m.Lhs) (sN m.Rhs):=by
    rw[zK,Bii,Aj3];exact Ble ht hn hl2 hr2
   rw[hok];unfold Al0 Afo;rw[if_pos h0,if_pos hin];rfl
  .have hge:2^t.Attrs.length<=sN m.Lhs ||| sN m.Rhs:=Nat.le_of_not_lt fun h=>hin (Au2.2 h)
   refine Aqb (p:=fun _=>none) (q:=Ae6 Hol.valF Hol.keyF) (by kernel_rfl) rfl (by kernel_rfl) ⟨N,fun j hj=>?_⟩;simp only[Ae6,runAsk,kv j (by omega),h0,if_true];rw[if_neg (by
    rw[eshr];have:0<(sN m.Lhs ||| sN m.Rhs) / 2^t.Attrs.length:=Nat.div_pos hge p0
    omega)]
   unfold Al0 Afo;rw[if_pos h0,if_neg hin];rfl
 .refine Aqb (p:=fun _=>none) (q:=Ae6 Hol.valF Hol.keyF) (by kernel_rfl) rfl (by kernel_rfl) ⟨N,fun j hj=>?_⟩;simp only[Ae6,runAsk,kv j (by omega)];rw[if_neg h0];unfold Al0;rw[if_neg h0];rfl
def errA(n:Int)(l:List api_FD):Int:=if fdsE n l=0 then(if 10<n then 3 else 0)else fdsE n l
def Bm7{n:Int}{l:List api_FD}(h:errA n l=0):0<=n/\n<=10/\fdsE n l=0:=by
 unfold errA at h
 split at h
 .rename_i h0;have:=Atp h0
  split at h
  .cases h
  .exact ⟨by omega,by omega,h0⟩
 .rename_i h0;exact absurd h h0
def Am3{n:Nat}(hn:n<=16):q70_.C n ((2^n-1:Nat):Int):=by
 rw[<-Atx hn];exact q70_.sP
def FdIn(n:Nat)(l:List api_FD):Prop:=∀d∈l,sN d.Lhs<2^n/\sN d.Rhs<2^n
def Bjs{n:Int}{l:List api_FD}(h:fdsE n l=0):FdIn n.toNat l:=by
 unfold fdsE at h
 split at h
 .cases h
 .split at h
  .cases h
  .split at h
   .rename_i ha;intro d hd;have:=yA.1 ha d hd;unfold inU at this;simp only[zF,decide_eq_true_eq]at this;exact this
   .cases h
def abcK:List ByteArray:=[⟨#[97]⟩,⟨#[98]⟩,⟨#[99]⟩,⟨#[100]⟩,⟨#[101]⟩,⟨#[102]⟩,⟨#[103]⟩,⟨#[104]⟩,⟨#[105]⟩,⟨#[106]⟩,⟨#[107]⟩,⟨#[108]⟩,⟨#[109]⟩,⟨#[110]⟩,⟨#[111]⟩,⟨#[112]⟩]
def Bh3:∀i:Fin 16,Utf8.encode (IntKind.wrap .i32 (IntKind.wrap .i64 (97+(i.val:Int))))=(abcK[i.val]?).getD ⟨#[]⟩:=by decide +kernel
def Bew{k:Nat}(h:k<16):abcK.take (k+1)=abcK.take k++[(abcK[k]?).getD ⟨#[]⟩]:=by
 have hl:abcK.length=16:=rfl;rw[zX,zA (by omega)];rfl
def Ays{n:Nat}(hn:n<=16):(abcK.take n).length=n:=by
 have hl:abcK.length=16:=rfl;rw[zZ];omega
def bitV(b:Bool):api_Value:=⟨1,if b=true then 1 else 0,⟨#[]⟩⟩
def rowV(n m:Nat):List api_Value:=(yP n).map fun i=>bitV (m.testBit i)
def Bat{n m:Nat}:(rowV n m).length=n:=by simp[rowV]
def Bgi{n m:Nat}:rowV (n+1) m=rowV n m++[bitV (m.testBit n)]:=by
 unfold rowV;rw[List.range_succ,yS];rfl
def Bas{n m a:Nat}(ha:a<n):(rowV n m)[a]?=some (bitV (m.testBit a)):=by
 unfold rowV;rw[zP,List.getElem?_range ha];rfl
def Ayh:api_Table:=⟨⟨#[]⟩,[],[]⟩
namespace q103_
def cells{n:Nat}{xs:List Int}{ats:List ByteArray}{rows:List api_Row}{m k:Nat}{id:Int}{J:api_Table->Prop}(hn:n<=16)(hm:m<2^32)(hr:rows.length<=2000)(hk:k<=2000)
  (h:L2 n xs ats (rows++[⟨id,rowV n m⟩]) ((k+1:Nat):Int) J):∀(d i:Nat),d+i=n->L3 n xs ats rows (m:Int) id (rowV i m) k i J
 |0,i,hd=>by
  have:i=n:=by omega
  subst this;apply K3;rw[if_neg (by omega),Aa5 (by omega)];exact⟨by omega,h⟩
 |d+1,i,hd=>by
  have next:=cells hn hm hr hk h d (i+1) (by omega);rw[Bgi]at next;apply K3;rw[if_pos (by omega),Aa5 (by omega)];refine⟨by omega,by rw[Bat];omega,?_⟩;have e:IntKind.wrap .i64 (bAnd .u32 (shrw .u32 (m:Int) (i:Int)) 1)=if m.testBit i=true then 1 else 0:=by
   rw[Bca (k:=.u32) (by simpa[top]using hm) (by decide)]
   split<;>decide
  rw[e];exact next
end q103_
def q93_.sP{n:Nat}{l r:Int}(hl:U32 l)(hr:U32 r):q93_.C n (bOr .u32 l r) (inU n l r):=by
 obtain⟨q,h1,h2⟩:=q93_.nt n (bOr .u32 l r) (fun q=>q=inU n l r) ⟨by omega,by
  have e0:bOr .u32 l r=((sN l ||| sN r:Nat):Int):=by
   conv=>lhs;rw[hl.eq,hr.eq]
   exact Ae7 hl.top hr.top
  have hlt:sN l ||| sN r<2^32:=zY hl.lt hr.lt
  rw[e0];have e1:IntKind.wrap .u64 ((sN l ||| sN r:Nat):Int)=((sN l ||| sN r:Nat):Int):=by
   unfold IntKind.wrap;simp only[IntKind.bits,IntKind.signed,Bool.false_and,zI,if_false];omega
  rw[e1,Adz (k:=.u64) (Nat.lt_trans hlt (by decide))];refine zK.2 ?_;rw[beq_iff_eq];unfold inU;rw[zF,decide_eq_true_iff,decide_eq_true_iff,<-Aup,<-Azd]
  omega⟩
 rw[<-h1];exact h2
def q46_.sP{n:Nat}{l r:Int}(hn:n<=16)(hl:U32 l)(hr:U32 r):q46_.C n l r (inU n l r):=by
 obtain⟨q,h1,h2⟩:=q46_.nt n l r (fun q=>q=inU n l r) (by
  have e0:bOr .u32 l r=((sN l ||| sN r:Nat):Int):=by
   conv=>lhs;rw[hl.eq,hr.eq]
   exact Ae7 hl.top hr.top
  have hlt:sN l ||| sN r<2^32:=zY hl.lt hr.lt
  have hs:=Av1 (n:=n) (x:=((sN l ||| sN r:Nat):Int)) (by omega) (U32.of hlt);rw[Atx hn]at hs;refine⟨_,Am3 hn,_,by rw[e0];exact hs,?_⟩;refine zK.2 ?_;rw[decide_eq_true_iff,Aco];unfold inU
  rw[zF,decide_eq_true_iff,decide_eq_true_iff,<-Aup])
 rw[<-h1];exact h2
namespace q94_
end q94_
def Bg8{b:UInt8}(h:(letB (u8i b)&&true)=true):Agv ⟨#[b]⟩=true:=by
 unfold Agv;have e:(⟨#[b]⟩:ByteArray).toList=[b]:=Aya (l:=[b]);rw[e];simp only[Ac7,yT,List.all_nil,Bool.and_true]at h⊢;rw[h];have:decide ([b]=Aob)=false:=decide_eq_false (by unfold Aob;simp);rw[this];rfl
def Bcm:∀(r pre:List ByteArray),(∀x∈r,Agv x=true)->(pre++r).Nodup->Aj4 pre r=true
 |[],_,_,_=>rfl
 |a::r,pre,hn,hd=>by
  rw[Aj4,hn a (by simp),Bcm r (pre++[a]) (fun x hx=>hn x (by simp[hx])) (by rw[zQ];exact hd)];have:pre.any (eqS a)=false:=by
   rw[List.any_eq_false];intro x hx;unfold eqS;rw[decide_eq_true_iff];intro he;subst he;rw[yD]at hd;exact hd.2.2 x hx x (by simp) rfl
  rw[this];rfl
def Bd4{m:Nat}:Aey (abcK.take m)=true:=by
 unfold Aey;refine Bcm _ [] (fun x hx=>?_) ?_
 .have hx:=List.mem_of_mem_take hx;unfold abcK at hx;simp only[List.mem_cons,List.not_mem_nil,or_false]at hx;rcases hx with rfl|rfl|rfl|rfl|rfl|rfl|rfl|rfl|rfl|rfl|rfl|rfl|rfl|rfl|rfl|rfl<;>exact Bg8 (by decide)
 .rw [zU];have:abcK.Nodup:=by decide +kernel
  exact this.sublist (List.take_sublist _ _)
def Bee{n m:Nat}:Adt (rowV n m)=true:=by
 unfold Adt;rw[yA];intro v hv;obtain⟨i,_,rfl⟩:=zS.1 hv;unfold Ab2;rw[decide_eq_true_iff];exact .inr (.inl ⟨rfl,Az1⟩)
def Aiw{t:api_Table}(ht:TV t){d:api_FD}(hl:U32 d.Lhs)(hr:U32 d.Rhs):∃b,q23_.C t d b/\(b=true↔SatP t (sN d.Lhs) (sN d.Rhs)):=
 q23_.sP ht hl.eq hr.eq hl.lt hr.lt
namespace q61_
end q61_
def Am7{O:Type}{l:List O}{P:O->Prop}{L:Int->Prop}{N:Prop}(hend:(∀a∈l,P a)->L (l.length:Int))(hbad:(¬ ∀a∈l,P a)->N)(hs:∀(k:Nat)(a:O),l[k]?=some a->k<l.length->(P a->L ((k+1:Nat):Int))->(¬P a->N)->L (k:Int)):L 0:=by
 have go:∀(d k:Nat),d+k=l.length->(∀j a,j<k->l[j]?=some a->P a)->L (k:Int):=by
  intro d
  induction d with
  |zero=>
   intro k hk hp;have hk:k=l.length:=by omega
   subst hk;refine hend fun a ha=>?_;obtain⟨j,hj⟩:=zL ha;exact hp j a (zD.1 hj).1 hj
  |succ d ih=>
   intro k hk hp;have hlt:k<l.length:=by omega
   have hget:=zA hlt;refine hs k _ hget hlt (fun hP=>ih (k+1) (by omega) fun j a hj ha=>?_) (fun hP=>hbad fun h=>hP (h _ (zM hlt)));by_cases hjk:j=k
   .subst hjk;rw[hget]at ha;cases ha;exact hP
   .exact hp j a (by omega) ha
 exact go l.length 0 rfl fun j _ hj=>absurd hj (zW j)
def Bd1(t:api_Table)(fds:List api_FD)(mvds:List api_MVD):Prop:=(∀d∈fds,SatP t (sN d.Lhs) (sN d.Rhs))/\∀m∈mvds,MvP t (sN m.Lhs) (sN m.Rhs)
open Classical in
noncomputable def Aes(t:api_Table)(fds:List api_FD)(mvds:List api_MVD):Bool:=decide (Bd1 t fds mvds)
def Als{t:api_Table}{fds:List api_FD}{mvds:List api_MVD}:Aes t fds mvds=true↔Bd1 t fds mvds:=by unfold Aes;exact @decide_eq_true_iff _ (Classical.propDecidable _)
def Alt{t:api_Table}{fds:List api_FD}{mvds:List api_MVD}(h:¬Bd1 t fds mvds):Aes t fds mvds=false:=by
 cases hb:Aes t fds mvds with
 |false=>rfl
 |true=>exact absurd (Als.1 hb) h
def Avw{t:api_Table}{l r:Nat}(h:¬MvP t l r):mvB t l r=false:=by
 cases hb:mvB t l r with
 |false=>rfl
 |true=>exact absurd (Aj3.1 hb) h
noncomputable def Aji(t:api_Table)(fds:List api_FD)(mvds:List api_MVD):Bool×Int:=if Acf t=0 then(if basE (t.Attrs.length:Int) fds mvds=0 then(Aes t fds mvds,0)else(false,basE (t.Attrs.length:Int) fds mvds))else(false,Acf t)
section
variable{t:api_Table}{fds:List api_FD}{mvds:List api_MVD}
def Ayy{n:Int}(h:basE n fds mvds=0):fds.length<=64/\mvds.length<=64:=by
 unfold basE at h
 split at h
 .rename_i h0
  split at h
  .cases h
  .refine ⟨?_,by omega⟩;unfold fdsE at h0
   split at h0
   .cases h0
   .split at h0
    .cases h0
    .omega
 .rename_i h0;exact absurd h h0
def Atf{n:Nat}(h:basE (n:Int) fds mvds=0):(∀d∈fds,sN d.Lhs<2^n/\sN d.Rhs<2^n)/\∀m∈mvds,inU n m.Lhs m.Rhs=true:=by
 unfold basE at h
 split at h
 .rename_i h0;refine⟨fun d hd=>?_,?_⟩
  .unfold fdsE at h0
   split at h0
   .cases h0
   .split at h0
    .cases h0
    .split at h0
     .rename_i h2;rw[yA]at h2;have:=h2 d hd;unfold inU at this;rw[zO,zF,decide_eq_true_eq,decide_eq_true_eq]at this;exact this
     .cases h0
  .split at h
   .cases h
   .split at h
    .rename_i h2;rw[yA]at h2;intro m hm;have:=h2 m hm
     rwa [zO]at this
    .cases h
 .rename_i h0;exact absurd h h0
def Bds(ht:TV t){m:api_MVD}(hin:inU t.Attrs.length m.Lhs m.Rhs=true):Al0 t m=(mvB t (sN m.Lhs) (sN m.Rhs),0):=by
 unfold Al0 Afo;rw[if_pos (Ae3.2 ht),if_pos hin]
def q62_.sP(hn:TNum t)(hf:FdOK fds)(hm:Aeg mvds):q62_.C t fds mvds (Aji t fds mvds):=by
 obtain⟨r,h1,h2⟩:=q62_.nt t fds mvds (fun r=>r=Aji t fds mvds) (by
  refine⟨_,q109_.sP,?_⟩;unfold Aji;by_cases h0:Acf t=0
  .rw [if_pos h0,if_pos h0];have ht:=Ae3.1 h0;refine⟨_,q110_.sP hf hm,?_⟩;by_cases hb:basE (t.Attrs.length:Int) fds mvds=0
   .rw [if_pos hb,if_pos hb];obtain⟨l1,l2⟩:=Ayy hb;obtain⟨v1,v2⟩:=Atf hb;refine Am7 (l:=fds) (P:=fun d=>SatP t (sN d.Lhs) (sN d.Rhs)) (L:=fun k=>q62_.L1 t fds mvds k _) (N:=(false,(0:Int))=(Aes t fds mvds,0)) (fun hall=>?_) (fun hno=>by rw[Alt fun h=>hno h.1]) (fun k d hd hk hy hno=>?_)
    .apply q62_.K1;rw[if_neg (by omega)];refine Am7 (l:=mvds) (P:=fun d=>MvP t (sN d.Lhs) (sN d.Rhs)) (L:=fun k=>q62_.L2 t mvds k _) (N:=(false,(0:Int))=(Aes t fds mvds,0)) (fun hall2=>?_) (fun hno=>by rw[Alt fun h=>hno h.2]) (fun k m hm' hk hy hno=>?_)
     .apply q62_.K2;rw[if_neg (by omega),Als.2 ⟨hall,hall2⟩]
     .apply q62_.K2;have hmm:=zB hm';rw[if_pos (by omega)];refine⟨m,Ab6 hm',_,q111_.sP hn (hm m hmm).1 (hm m hmm).2,?_⟩;rw[Bds ht (v2 m hmm),Aa5 (by omega)];by_cases hM:MvP t (sN m.Lhs) (sN m.Rhs)
      .rw [if_pos (Aj3.2 hM)];exact hy hM
      .rw [if_neg (by rw[Avw hM];simp)];exact hno hM
    .apply q62_.K1;have hdm:=zB hd;have hlh:=hf d hdm;have hv:=v1 d hdm;rw[if_pos (by omega)];obtain⟨q,q1,q2,q3⟩:=q77_.sP (t:=t) (fd:=d) hn hlh.1.eq hlh.2.eq hlh.1.lt hlh.2.lt;refine⟨d,Ab6 hd,q,q1,?_⟩;have hE:Akz t (sN d.Lhs) (sN d.Rhs)=0:=by
      unfold Akz;rw[if_pos h0,if_pos (Aup.2 hv)]
     rw[Aa5 (by omega)];by_cases hS:SatP t (sN d.Lhs) (sN d.Rhs)
     .rw [if_pos (q3.2 ⟨hE,hS⟩)];exact hy hS
     .rw [if_neg fun h=>hS (q3.1 h).2];exact hno hS
   .rw [if_neg hb,if_neg hb]
  .rw [if_neg h0,if_neg h0])
 rw[<-h1];exact h2
def q61_.mixed(ht:TV t)(hf:FdOK fds)(hm:Aeg mvds)(hb:basE (t.Attrs.length:Int) fds mvds=0):q61_.C t fds mvds (Aes t fds mvds):=by
 obtain⟨l1,l2⟩:=Ayy hb;obtain⟨v1,v2⟩:=Atf hb;obtain⟨r,h1,h2⟩:=q61_.nt t fds mvds (fun r=>r=Aes t fds mvds) (by
  refine Am7 (l:=fds) (P:=fun d=>SatP t (sN d.Lhs) (sN d.Rhs)) (L:=fun k=>q61_.L1 t fds mvds k _) (N:=false=Aes t fds mvds) (fun hall=>?_) (fun hno=>by rw[Alt fun h=>hno h.1]) (fun k d hd hk hy hno=>?_)
  .apply q61_.K1;rw[if_neg (by omega)];refine Am7 (l:=mvds) (P:=fun d=>MvP t (sN d.Lhs) (sN d.Rhs)) (L:=fun k=>q61_.L2 t mvds k _) (N:=false=Aes t fds mvds) (fun hall2=>?_) (fun hno=>by rw[Alt fun h=>hno h.2]) (fun k m hm' hk hy hno=>?_)
   .apply q61_.K2;rw[if_neg (by omega),Als.2 ⟨hall,hall2⟩]
   .apply q61_.K2;have hmm:=zB hm';rw[if_pos (by omega)];refine⟨m,Ab6 hm',_,q56_.sP ht (hm m hmm).1 (hm m hmm).2,?_⟩;unfold Afo;rw[if_pos (v2 m hmm),Aa5 (by omega)];by_cases hM:MvP t (sN m.Lhs) (sN m.Rhs)
    .rw [if_pos (Aj3.2 hM)];exact hy hM
    .rw [if_neg (by rw[Avw hM];simp)];exact hno hM
  .apply q61_.K1;have hdm:=zB hd;obtain⟨b,hb,hi⟩:=Aiw ht (hf d hdm).1 (hf d hdm).2;rw[if_pos (by omega)];refine⟨d,Ab6 hd,b,hb,?_⟩;rw[Aa5 (by omega)];by_cases hS:SatP t (sN d.Lhs) (sN d.Rhs)
   .rw [if_pos (hi.2 hS)];exact hy hS
   .rw [if_neg fun h=>hS (hi.1 h)];exact hno hS)
 rw[<-h1];exact h2
def q25_.sP(hf:FdOK fds)(hm:Aeg mvds):q25_.C t fds mvds (Aji t fds mvds):=by
 obtain⟨r,h1,h2⟩:=q25_.nt t fds mvds (fun r=>r=Aji t fds mvds) (by
  refine⟨_,q50_.sP,?_⟩;unfold Aji;by_cases h0:Acf t=0
  .rw [if_pos h0,if_pos h0];refine⟨_,q54_.sP hf hm,?_⟩;by_cases hb:basE (t.Attrs.length:Int) fds mvds=0
   .rw [if_pos hb,if_pos hb];exact⟨_,q61_.mixed (Ae3.1 h0) hf hm hb,rfl⟩
   .rw [if_neg hb,if_neg hb]
  .rw [if_neg h0,if_neg h0])
 rw[<-h1];exact h2
noncomputable def Alx(t:api_Table)(fds:List api_FD)(mvds:List api_MVD)(g:api_MVD):Bool:=decide (Acf t=0)&&(decide (basE (t.Attrs.length:Int) fds mvds=0)&&(Aes t fds mvds&&(inU t.Attrs.length g.Lhs g.Rhs&&!mvB t (sN g.Lhs) (sN g.Rhs))))
def As5:(Aji t fds mvds=(false,Acf t)/\Acf t≠0)∨(Aji t fds mvds=(false,basE (t.Attrs.length:Int) fds mvds)/\Acf t=0/\basE (t.Attrs.length:Int) fds mvds≠0)∨(Aji t fds mvds=(Aes t fds mvds,0)/\Acf t=0/\basE (t.Attrs.length:Int) fds mvds=0):=by
 unfold Aji;by_cases h0:Acf t=0
 .by_cases hb:basE (t.Attrs.length:Int) fds mvds=0
  .exact .inr (.inr ⟨by rw[if_pos h0,if_pos hb],h0,hb⟩)
  .exact .inr (.inl ⟨by rw[if_pos h0,if_neg hb],h0,hb⟩)
 .exact .inl ⟨by rw[if_neg h0],h0⟩
def q104_.sP(hn:TNum t)(hf:FdOK fds)(hm:Aeg mvds){g:api_MVD}(hl:U32 g.Lhs)(hr:U32 g.Rhs):q104_.C t fds mvds g (Alx t fds mvds g):=by
 obtain⟨r,h1,h2⟩:=q104_.nt t fds mvds g (fun r=>r=Alx t fds mvds g) (by
  refine⟨_,q62_.sP hn hf hm,?_⟩;unfold Alx;rcases As5 (t:=t) (fds:=fds) (mvds:=mvds)with⟨e,h0⟩|⟨e,h0,hb⟩|⟨e,h0,hb⟩
  .rw [e,if_neg h0];simp[h0]
  .rw [e,if_neg hb];simp[hb]
  .rw [e,if_pos rfl];cases hB:Aes t fds mvds with
   |false=>rw[if_neg (by simp)];simp
   |true=>
    rw[if_pos rfl];refine⟨_,q111_.sP hn hl hr,?_⟩;unfold Al0 Afo;rw[if_pos h0];by_cases hin:inU t.Attrs.length g.Lhs g.Rhs=true
    .rw [if_pos hin,if_pos rfl];simp[h0,hb,hin]
    .rw [if_neg hin,if_neg (by decide)]
     simp[hin])
 rw[<-h1];exact h2
def q63_.sP(hf:FdOK fds)(hm:Aeg mvds){g:api_MVD}(hl:U32 g.Lhs)(hr:U32 g.Rhs):q63_.C t fds mvds g (Alx t fds mvds g):=by
 obtain⟨r,h1,h2⟩:=q63_.nt t fds mvds g (fun r=>r=Alx t fds mvds g) (by
  refine⟨_,q25_.sP hf hm,?_⟩;unfold Alx;rcases As5 (t:=t) (fds:=fds) (mvds:=mvds)with⟨e,h0⟩|⟨e,h0,hb⟩|⟨e,h0,hb⟩
  .rw [e,if_neg h0];simp[h0]
  .rw [e,if_neg hb];simp[hb]
  .rw [e,if_pos rfl];have ht:=Ae3.1 h0;cases hB:Aes t fds mvds with
   |false=>rw[if_neg (by simp)];simp
   |true=>
    rw[if_pos rfl];refine⟨_,q46_.sP ht.na hl hr,?_⟩;by_cases hin:inU t.Attrs.length g.Lhs g.Rhs=true
    .rw [if_pos hin];refine⟨_,q56_.sP ht hl hr,?_⟩;unfold Afo;rw[if_pos hin];simp[h0,hb,hin]
    .rw [if_neg hin]
     simp[hin])
 rw[<-h1];exact h2
end
def lN(R:List Nat):List Int:=R.map fun(m:Nat)=>(m:Int)
def Abg{R:List Nat}:(lN R).length=R.length:=by simp[lN]
def Apx{R:List Nat}{x:Nat}:(x:Int)∈lN R↔x∈R:=by
 unfold lN;rw[zS];constructor
 .rintro ⟨a,ha,he⟩;obtain rfl:a=x:=by omega
  exact ha
 .intro h;exact⟨x,h,rfl⟩
def Afp{R:List Nat}{i r:Nat}(h:R[i]?=some r):lget (lN R) (i:Int)=some (r:Int):=Ab6 (by simp[lN,h])
def fN(d:api_FD):Nat×Nat:=(sN d.Lhs,sN d.Rhs)
def mN(d:api_MVD):Nat×Nat:=(sN d.Lhs,sN d.Rhs)
def Ab7{a:Nat}(h:a<2^32):a<2^top .u32:=by simpa[top]using h
def Bb4{a b:Nat}{l:Int}(ha:a<2^32)(hb:b<2^32)(hl:U32 l):bAnd .u32 (bXor .u32 (a:Int) (b:Int)) l=(((a ^^^ b) &&& sN l:Nat):Int):=by
 rw[Ayx (Ab7 ha) (Ab7 hb)]
 conv=>lhs;rw[hl.eq]
 exact Adv (Ab7 (Nat.xor_lt_two_pow ha hb)) hl.top
def Ah6{a b:Nat}{l:Int}(ha:a<2^32)(hb:b<2^32)(hl:U32 l):bAnd .u32 (bXor .u32 (a:Int) (b:Int)) l=0↔Aax (sN l) a b:=by
 rw[Bb4 ha hb hl,<-Atc];omega
def mixI{l r:Int}(hl:U32 l)(hr:U32 r){a b:Nat}(ha:a<2^32)(hb:b<2^32):bOr .u32 (bAnd .u32 (a:Int) (bOr .u32 l r)) (Aae .u32 (b:Int) (bOr .u32 l r))=((mixR (sN l,sN r) a b:Nat):Int):=by
 have e:bOr .u32 l r=((sN l ||| sN r:Nat):Int):=by
  conv=>lhs;rw[hl.eq,hr.eq]
  exact Ae7 hl.top hr.top
 have h1:sN l ||| sN r<2^32:=zY hl.lt hr.lt
 rw[e,Adv (Ab7 ha) (Ab7 h1),Abp (Ab7 hb) (Ab7 h1),Ae7 (Ab7 (zC Nat.and_le_left ha)) (Ab7 (zC Adf hb))];rfl
def q35_.sP{R:List Nat}{x:Nat}(hl:R.length<=1000000):q35_.C (x:Int) (lN R) (decide (x ∉ R),⟨lN (if x∈R then R else R++[x])⟩):=by
 obtain⟨r,h1,h2⟩:=q35_.nt (x:Int) (lN R) (fun r=>r=(decide (x ∉ R),⟨lN (if x∈R then R else R++[x])⟩)) (by
  refine⟨_,q91_.sP (by rw[Abg];omega),?_⟩;by_cases h:x∈R
  .rw [if_pos (by rw[decide_eq_true_eq];exact Apx.2 h)];simp[h]
  .rw [if_neg (by rw[decide_eq_true_eq];exact fun hh=>h (Apx.1 hh))]
   exact⟨by rw[Abg];omega,by simp[h,lN]⟩)
 rw[<-h1];exact h2
def Aeq{R:List Nat}{k a:Nat}(h:R[k]?=some a){q:Nat}:q∈R.take (k+1)↔q∈R.take k∨q=a:=by
 rw[zX,h,zV];simp
namespace q22_
def loop{R:List Nat}{s:Nat}(hs:s<2^32)(hR:∀r∈R,r<2^32)(hl:R.length<=1000){J:drossref13_Two->Prop}:∀(r:List Nat)(k:Nat)(A:List Nat),R.drop k=r->A.length<=k->A.Nodup->(∀u,u∈A↔∃q∈R.take k,u=Aa7 q s) ->
  (∀A':List Nat,A'.Nodup->(∀u,u∈A'↔∃q∈R,u=Aa7 q s)->J ⟨lN A'⟩)->L1 (s:Int) (lN R) k (lN A) J:=by
 intro r
 induction r with
 |nil=>
  intro k A hd hk hn hm h;have:=Aap hd;apply K1;rw[if_neg (by rw[Abg];omega)];refine h A hn fun u=>?_;rw[hm u,yI this]
 |cons a r ih=>
  intro k A hd hk hn hm h;have hlt:=Aaq hd;have ha:=Aab hd;have ha32:=hR a (zB ha);apply K1;rw[if_pos (by rw[Abg];omega)];refine⟨_,Afp ha,?_⟩;rw[Abp (Ab7 ha32) (Ab7 hs)];refine⟨_,q35_.sP (by omega),?_⟩;rw[Aa5 (by omega)];refine ih (k+1) _ (Aa8 hd) ?_ ?_ ?_ h
  .split
   .omega
   .rw [zG,yB];omega
  .split
   .exact hn
   .rename_i hni;rw[yD];exact⟨hn,by simp,fun x hx y hy=>by simp only[yC]at hy;subst hy;rintro rfl;exact hni hx⟩
  .intro u
   split
   .rename_i hin;rw[hm u];constructor
    .rintro ⟨q,h1,h2⟩;exact⟨q,(Aeq ha).2 (.inl h1),h2⟩
    .rintro ⟨q,h1,rfl⟩;rcases(Aeq ha).1 h1 with h1|rfl
     .exact ⟨q,h1,rfl⟩
     .exact (hm _).1 hin
   .rw [zV,hm u,yC];constructor
    .rintro (⟨q,h1,h2⟩|rfl)
     .exact ⟨q,(Aeq ha).2 (.inl h1),h2⟩
     .exact ⟨a,(Aeq ha).2 (.inr rfl),rfl⟩
    .rintro ⟨q,h1,rfl⟩;rcases(Aeq ha).1 h1 with h1|rfl
     .exact .inl ⟨q,h1,rfl⟩
     .exact .inr rfl
def sP{R:List Nat}{s:Nat}(hs:s<2^32)(hR:∀r∈R,r<2^32)(hl:R.length<=1000):∃A:List Nat,A.Nodup/\(∀u,u∈A↔∃q∈R,u=Aa7 q s)/\C (s:Int) (lN R) ⟨lN A⟩:=by
 obtain⟨r,⟨A,h1,h2,rfl⟩,h3⟩:=nt (s:Int) (lN R) (fun r=>∃A:List Nat,A.Nodup/\(∀u,u∈A↔∃q∈R,u=Aa7 q s)/\r=⟨lN A⟩)
  (loop hs hR hl R 0 [] rfl (zT 0) List.nodup_nil (fun u=>by simp) fun A' h1 h2=>⟨A',h1,h2,rfl⟩)
 exact⟨A,h1,h2,h3⟩
end q22_
def At7(d:Nat×Nat)(R A:List Nat):Prop:=∃r s D:Nat,r∈R/\s∈R/\Aax d.1 r s/\D=(r ^^^ s) &&& d.2/\D≠0/\A.Nodup/\∀u,u∈A↔∃q∈R,u=Aa7 q D
def Ah5(d:Nat×Nat)(R:List Nat):Prop:=∀r s,r∈R->s∈R->Aax d.1 r s->Aax d.2 r s
namespace q47_
def loop{R:List Nat}{d:api_FD}(hd:U32 d.Lhs/\U32 d.Rhs)(hR:∀r∈R,r<2^32)(hl:R.length<=1000){J:Bool×drossref13_Two->Prop}(h1:∀A:List Nat,At7 (fN d) R A->J (true,⟨lN A⟩))(h2:Ah5 (fN d) R->J (false,⟨lN R⟩)):
  ∀(l:List Nat)(i:Nat),R.drop i=l->(∀j r s,j<i->R[j]?=some r->s∈R->Aax (fN d).1 r s->Aax (fN d).2 r s)->L1 d (i:Int) (lN R) J:=by
 intro l
 induction l with
 |nil=>
  intro i hi hdone;have:=Aap hi;apply K1;rw[if_neg (by rw[Abg];omega)];refine h2 fun r s hr hs=>?_;obtain⟨j,hj⟩:=zL hr;exact hdone j r s (by have:=(zD.1 hj).1;omega) hj hs
 |cons a l ih=>
  intro i hi hdone;have hlt:=Aaq hi;have ha:=Aab hi;have ham:=zB ha;apply K1;rw[if_pos (by rw[Abg];omega)];have inner:∀(l2:List Nat)(k:Nat),R.drop k=l2->(∀j s,j<k->R[j]?=some s->Aax (fN d).1 a s->Aax (fN d).2 a s)->L2 d (i:Int) (k:Int) (lN R) J:=by
   intro l2
   induction l2 with
   |nil=>
    intro k hk hk2;have:=Aap hk;apply K2;rw[if_neg (by rw[Abg];omega),Aa5 (by omega)];refine ih (i+1) (Aa8 hi) fun j r s hj hr hs=>?_;by_cases hji:j=i
    .subst hji;rw[ha]at hr;cases hr;obtain⟨q,hq⟩:=zL hs;exact hk2 q s (by have:=(zD.1 hq).1;omega) hq
    .exact hdone j r s (by omega) hr hs
   |cons b l2 ih2=>
    intro k hk hk2;have hklt:=Aaq hk;have hb:=Aab hk;have hbm:=zB hb;have next:(Aax (fN d).1 a b->Aax (fN d).2 a b)->L3 d (i:Int) (k:Int) (lN R) J:=fun hn=>by
     apply K3;rw[Aa5 (by omega)];refine ih2 (k+1) (Aa8 hk) fun j s hj hs=>?_;by_cases hjk:j=k
     .subst hjk;rw[hb]at hs;cases hs;exact hn
     .exact hk2 j s (by omega) hs
    apply K2;rw[if_pos (by rw[Abg];omega)];refine⟨_,Afp ha,_,Afp hb,?_⟩;by_cases h0:Aax (sN d.Lhs) a b
    .rw [if_pos ((Ah6 (hR a ham) (hR b hbm) hd.1).2 h0)];by_cases h3:Aax (sN d.Rhs) a b
     .rw [if_pos ((Ah6 (hR a ham) (hR b hbm) hd.2).2 h3)];exact next fun _=>h3
     .rw [if_neg fun hh=>h3 ((Ah6 (hR a ham) (hR b hbm) hd.2).1 hh)];rw[Bb4 (hR a ham) (hR b hbm) hd.2];obtain⟨A,a1,a2,a3⟩:=q22_.sP (R:=R) (s:=(a ^^^ b) &&& sN d.Rhs) (zC Nat.and_le_right hd.2.lt) hR hl;exact⟨_,a3,h1 A ⟨a,b,_,ham,hbm,h0,rfl,fun hz=>h3 (Atc.1 hz),a1,a2⟩⟩
    .rw [if_neg fun hh=>h0 ((Ah6 (hR a ham) (hR b hbm) hd.1).1 hh)];exact next fun hn=>absurd hn h0
  exact inner R 0 rfl fun j s hj=>absurd hj (zW j)
def sP{R:List Nat}{d:api_FD}(hd:U32 d.Lhs/\U32 d.Rhs)(hR:∀r∈R,r<2^32)(hl:R.length<=1000):(∃A,At7 (fN d) R A/\C d (lN R) (true,⟨lN A⟩))∨(Ah5 (fN d) R/\C d (lN R) (false,⟨lN R⟩)):=by
 obtain⟨r,h1,h2⟩:=nt d (lN R) (fun r=>(∃A,At7 (fN d) R A/\r=(true,⟨lN A⟩))∨(Ah5 (fN d) R/\r=(false,⟨lN R⟩)))
  (loop hd hR hl (fun A hA=>.inl ⟨A,hA,rfl⟩) (fun h=>.inr ⟨h,rfl⟩) R 0 rfl fun j r s hj=>absurd hj (zW j))
 rcases h1 with⟨A,hA,rfl⟩|⟨h,rfl⟩
 .exact .inl ⟨A,hA,h2⟩
 .exact .inr ⟨h,h2⟩
end q47_
def Akq(m:Nat×Nat)(R:List Nat):Prop:=∀r s,r∈R->s∈R->Aax m.1 r s->mixR m r s∈R
structure Grows(m:Nat×Nat)(I:List Nat->Prop):Prop where
 lt:∀R,I R->∀r∈R,r<2^32
 len:∀R,I R->R.length<=64
 add:∀R r s,I R->r∈R->s∈R->Aax m.1 r s->mixR m r s ∉ R->I (R++[mixR m r s])
namespace q36_
def loop{R0:List Nat}{m:api_MVD}(hd:U32 m.Lhs/\U32 m.Rhs){I:List Nat->Prop}(hI:Grows (mN m) I){J:Bool×drossref13_Two->Prop}(h1:∀(ch:Bool)(A:List Nat),I A->(if ch=true then R0.length<A.length else A=R0/\Akq (mN m) R0)->J (ch,⟨lN A⟩)):
  ∀(a:Nat)(R:List Nat),I R->64-R.length<=a->R0.length<=R.length ->
   (∀(i:Nat)(ch:Bool),(if ch=true then R0.length<R.length else R=R0/\∀j r s,j<i->R0[j]?=some r->s∈R0->Aax (mN m).1 r s->mixR (mN m) r s∈R0)->L1 m ch (i:Int) (lN R) J) /\
   (∀(i k:Nat)(x:Nat),R[i]?=some x->R0.length<R.length->L2 m true (i:Int) (k:Int) (lN R) J):=by
 intro a
 induction a using Nat.strongRecOn with
 |_ a iha=>
 intro R hR ha hlen;have hl64:=hI.len R hR;have main:∀(b i:Nat),b=R.length-i ->
   (∀(ch:Bool),(if ch=true then R0.length<R.length else R=R0/\∀j r s,j<i->R0[j]?=some r->s∈R0->Aax (mN m).1 r s->mixR (mN m) r s∈R0)->L1 m ch (i:Int) (lN R) J) /\
   (∀(ch:Bool)(x:Nat),R[i]?=some x->(if ch=true then R0.length<R.length else R=R0/\∀j r s,j<i->R0[j]?=some r->s∈R0->Aax (mN m).1 r s->mixR (mN m) r s∈R0) ->
    ∀(c k:Nat),c=R.length-k->(ch=false->∀j s,j<k->R[j]?=some s->Aax (mN m).1 x s->mixR (mN m) x s∈R)->L2 m ch (i:Int) (k:Int) (lN R) J):=by
  intro b
  induction b with
  |zero=>
   intro i hb;refine⟨fun ch hch=>?_,fun ch x hx=>by have:=(zD.1 hx).1;omega⟩;apply K1;rw[if_neg (by rw[Abg];omega)];refine h1 ch R hR ?_;cases ch with
   |true=>simpa using hch
   |false=>
    simp only[zI,if_false]at hch⊢;obtain⟨rfl,hc⟩:=hch;refine⟨rfl,fun r s hr hs=>?_⟩;obtain⟨j,hj⟩:=zL hr;exact hc j r s (by have:=(zD.1 hj).1;omega) hj hs
  |succ b ihb=>
   intro i hb;have second:∀(ch:Bool)(x:Nat),R[i]?=some x->(if ch=true then R0.length<R.length else R=R0/\∀j r s,j<i->R0[j]?=some r->s∈R0->Aax (mN m).1 r s->mixR (mN m) r s∈R0) ->
    ∀(c k:Nat),c=R.length-k->(ch=false->∀j s,j<k->R[j]?=some s->Aax (mN m).1 x s->mixR (mN m) x s∈R)->L2 m ch (i:Int) (k:Int) (lN R) J:=by
    intro ch x hx hch c;have hxm:=zB hx
    induction c with
    |zero=>
     intro k hk hk2;apply K2;rw[if_neg (by rw[Abg];omega),Aa5 (by omega)];refine(ihb (i+1) (by omega)).1 ch ?_;cases ch with
     |true=>simpa using hch
     |false=>
      simp only[zI,if_false]at hch⊢;obtain⟨rfl,hc⟩:=hch;refine⟨rfl,fun j r s hj hr hs=>?_⟩;by_cases hji:j=i
      .subst hji;rw[hx]at hr;cases hr;obtain⟨q,hq⟩:=zL hs;exact hk2 rfl q s (by have:=(zD.1 hq).1;omega) hq
      .exact hc j r s (by omega) hr hs
    |succ c ihc=>
     intro k hk hk2;have hklt:k<R.length:=by omega
     obtain⟨y,hy⟩:∃y,R[k]?=some y:=⟨R[k],zA hklt⟩
     have hym:=zB hy;have hx32:=hI.lt R hR x hxm;have hy32:=hI.lt R hR y hym;have stay:(Aax (mN m).1 x y->mixR (mN m) x y∈R)->L3 m ch (i:Int) (k:Int) (lN R) J:=fun hn=>by
      apply K3;rw[Aa5 (by omega)];refine ihc (k+1) (by omega) fun hc j s hj hs=>?_;by_cases hjk:j=k
      .subst hjk;rw[hy]at hs;cases hs;exact hn
      .exact hk2 hc j s (by omega) hs
     apply K2;rw[if_pos (by rw[Abg];omega)];refine⟨_,Afp hx,_,Afp hy,?_⟩;by_cases h0:Aax (sN m.Lhs) x y
     .rw [if_pos ((Ah6 hx32 hy32 hd.1).2 h0),mixI hd.1 hd.2 hx32 hy32];refine⟨_,q35_.sP (by omega),?_⟩;by_cases hin:mixR (sN m.Lhs,sN m.Rhs) x y∈R
      .rw [if_neg (by simp[hin])];simp only[if_pos hin];exact stay fun _=>hin
      .rw [if_pos (by simp[hin])];simp only[if_neg hin];have hR':=hI.add R x y hR hxm hym h0 hin;have hlen':(R++[mixR (sN m.Lhs,sN m.Rhs) x y]).length=R.length+1:=by simp
       have h64:=hI.len _ hR';rw[show(mN m)=(sN m.Lhs,sN m.Rhs)from rfl]at hR' h64;apply K3;rw[Aa5 (by omega)];refine(iha (64-(R++[mixR (sN m.Lhs,sN m.Rhs) x y]).length) (by omega) _ hR' (zT _) (by omega)).2 i (k+1) x ?_ (by omega);rw[List.getElem?_append_left (zD.1 hx).1];exact hx
     .rw [if_neg fun hh=>h0 ((Ah6 hx32 hy32 hd.1).1 hh)];exact stay fun hn=>absurd hn h0
   refine⟨fun ch hch=>?_,second⟩;have hilt:i<R.length:=by omega
   obtain⟨x,hx⟩:∃x,R[i]?=some x:=⟨R[i],zA hilt⟩
   apply K1;rw[if_pos (by rw[Abg];omega)];exact second ch x hx hch R.length 0 rfl fun _ j s hj=>absurd hj (zW j)
 exact⟨fun i ch hch=>(main _ i rfl).1 ch hch,fun i k x hx h=>(main _ i rfl).2 true x hx (by simpa using h) _ k rfl fun hq=>by cases hq⟩
def sP{R:List Nat}{m:api_MVD}(hd:U32 m.Lhs/\U32 m.Rhs){I:List Nat->Prop}(hI:Grows (mN m) I)(hR:I R):(∃A,I A/\R.length<A.length/\C m (lN R) (true,⟨lN A⟩))∨(Akq (mN m) R/\C m (lN R) (false,⟨lN R⟩)):=by
 obtain⟨r,h1,h2⟩:=nt m (lN R) (fun r=>(∃A,I A/\R.length<A.length/\r=(true,⟨lN A⟩))∨(Akq (mN m) R/\r=(false,⟨lN R⟩)))
  ((loop (R0:=R) hd hI (fun ch A hA h=>by
   cases ch with
   |true=>exact .inl ⟨A,hA,by simpa using h,rfl⟩
   |false=>
    simp only[zI,if_false]at h;obtain⟨rfl,h⟩:=h
    exact .inr ⟨h,rfl⟩) 64 R hR (by omega) (zT _)).1 0 false (by simp only[zI,if_false];exact⟨trivial,fun j r s hj=>absurd hj (zW j)⟩))
 rcases h1 with⟨A,hA,hl,rfl⟩|⟨h,rfl⟩
 .exact .inl ⟨A,hA,hl,h2⟩
 .exact .inr ⟨h,h2⟩
end q36_
def Acd(fds:List (Nat×Nat))(bs:List Nat)(rest live:Nat)(R:List Nat):Prop:=R.Nodup/\CI fds bs rest live fun u=>u∈R
section
variable{fds mvds:List (Nat×Nat)}{bs:List Nat}{rest live:Nat}
def Acd.lt{R:List Nat}(h:Acd fds bs rest live R){n:Nat}(hr:rest<2^n){r:Nat}(hm:r∈R):r<2^n:=
 Ad1.2 fun i hi=>Ad1.1 hr i (h.2.lsub i (h.2.sub r hm i hi))
def Acd.len{R:List Nat}(h:Acd fds bs rest live R)(hr:rest<2^6):R.length<=64:=Ast h.1 fun _ hx=>h.lt hr hx
def Acd.grows(hp:BPart rest bs)(hf:BFin (Ai0 fds mvds) bs)(hr:rest<2^6){m:Nat×Nat}(hm:m∈mvds):Grows m (Acd fds bs rest live) where
 lt R h r hr':=zN (h.lt hr hr') (by decide)
 len R h:=h.len hr
 add R r s h hr' hs ha hn:=by
  refine⟨?_,?_⟩
  .rw [yD];exact⟨h.1,by simp,fun x hx y hy=>by simp only[yC]at hy;subst hy;rintro rfl;exact hn hx⟩
  .have:=h.2.mv hp (hf m (List.mem_append_left _ hm)) hr' hs ha;have e:(fun u=>u∈R++[mixR m r s])=fun u=>u∈R∨u=mixR m r s:=by funext u;simp
   rw[e];exact this
def Acd.used(hp:BPart rest bs)(hf:BFin (Ai0 fds mvds) bs)(hr:rest<2^6){d:Nat×Nat}(hd:d∈fds)(hd32:d.2<2^32){R A:List Nat}(h:Acd fds bs rest live R)(hu:At7 d R A):∃live',live'<live/\Acd fds bs rest live' A:=by
 obtain⟨r,s,D,h1,h2,h3,rfl,h5,h6,h7⟩:=hu;have hD:∀i,((r ^^^ s) &&& d.2).testBit i=true->d.2.testBit i=true/\∃r s,r∈R/\s∈R/\Aax d.1 r s/\r.testBit i≠s.testBit i:=by
  intro i hi;rw[yU,zF,yV]at hi;refine⟨hi.2,r,s,h1,h2,h3,fun he=>?_⟩;rw[he]at hi;simp at hi
 refine⟨Aa7 live ((r ^^^ s) &&& d.2),?_,h6,?_⟩
 .refine Nat.lt_of_le_of_ne Adf fun he=>?_;obtain⟨i,hi⟩:=Bae h5;have hl:live.testBit i=true:=by
   rw[yU,zF,yV]at hi;cases hq:r.testBit i with
   |true=>exact h.2.sub r h1 i hq
   |false=>
    rw[hq]at hi;exact h.2.sub s h2 i (by simpa using hi.1)
  have:=congrArg (fun x=>x.testBit i) he;simp only[Aa9,hi,hl]at this;cases this
 .have:=h.2.fd hp hf hd hd32 hD;have e:(fun u=>u∈A)=fun u=>∃q,q∈R/\u=Aa7 q ((r ^^^ s) &&& d.2):=by funext u;rw[h7 u]
  rw[e];exact this
end
open Go.Sort
section
variable{p:Int->Prop}{lt:Int->Int->Bool}(hC:Alo p lt q75_.C)(hS:SWO lt)
include hC hS
def q7_.few{l:List Int}(hl:l.length<=12)(hp:∀x∈l,p x):∃r,q7_.C l r/\r.Perm l/\r.Pairwise (fun a b=>lt b a=false):=by
 have hsz:SzA l.toArray:=by unfold SzA;simp;omega
 have hpa:AllA p l.toArray:=fun i hi=>by
  have hi':i<l.length:=by simpa using hi
  rw[getElem!_pos l.toArray i hi];exact hp _ (by simp)
 obtain⟨r,⟨R,rfl,h1,h2⟩,h3⟩:=q7_.nt l (fun r=>∃R:Array Int,r=R.toList/\PermIn 0 l.length l.toArray R/\SortedIn lt 0 l.length R) (by
  have e:IntKind.wrap .u64 (l.length:Int)=(l.length:Int):=by
   rw[show(IntKind.wrap .u64 (l.length:Int))=(l.length:Int)%18446744073709551616 from by simp[IntKind.wrap,IntKind.bits,IntKind.signed]];omega
  rw[e];obtain⟨s,c,_,_⟩:=q89_.sP (x:=l.length) (by omega);refine⟨_,c,?_⟩;obtain⟨r,⟨R,rfl,q1,q2⟩,c2⟩:=q11_.nt 0 (l.length:Int) s l (fun r=>∃R:Array Int,r=R.toList/\PermIn 0 l.length l.toArray R/\SortedIn lt 0 l.length R) (by
   apply q11_.K1;rw[wx ((l.length:Int)-0) l.length (by omega) (by omega),if_pos (by omega)];have hi:=insertionSort_holds (lt:=lt) hS l.toArray 0 l.length (yL _) (by simp);have hc:=q4_.sP hC (a:=0) (b:=l.length) (d:=l.toArray) (yL _) (by simp) hpa hsz
   exact⟨_,hc,_,rfl,hi.1,hi.2⟩)
  exact⟨_,c2,R,rfl,q1,q2⟩)
 refine⟨_,h3,?_,?_⟩
 .have:=h1.2.2;have hz:R.size=l.length:=by simpa using h1.1
  have e1:(R.extract 0 l.length).toList=R.toList:=by
   rw[<-hz,Array.extract_size]
  have e2:(l.toArray.extract 0 l.length).toList=l:=by simp
  rwa [e1,e2]at this
 .have hz:R.size=l.length:=by simpa using h1.1
  rw[List.pairwise_iff_getElem];intro i j hi hj hij;have hi':i<R.size:=by simpa using hi
  have hj':j<R.size:=by simpa using hj
  have:=h2 i j (by omega) hij (by omega);rw[getElem!_pos R i hi',getElem!_pos R j hj']at this;simpa using this
end
def q90_.few{l:List Int}(hl:l.length<=12)(hu:AllU l):q90_.C l (ordL l):=by
 obtain⟨r,h1,h2⟩:=q90_.nt l (fun r=>r=ordL l) (by
  obtain⟨s,c,hp,ha⟩:=q7_.few Bjm Bl9 (l:=l) hl hu;have hlen:=hp.length_eq;obtain⟨b,c2⟩:=q14_.sP (l:=s) (by omega);refine⟨by omega,s,c,_,c2,?_⟩;have hus:AllU s:=fun x hx=>hu x (hp.mem_iff.1 hx);refine Blh hu (Aku hus (ha.imp fun h=>?_)) fun y=>by rw[Ai3,hp.mem_iff]
  unfold ltS at h;simp only[decide_eq_false_iff_not]at h
  omega)
 rw[<-h1];exact h2
def Biw{l r:Int}(hl:U32 l)(hr:U32 r){b:Nat}(hb:b<2^32):splI l r (b:Int)=Abt (sN l,sN r) b:=by
 have e1:bAnd .u32 (b:Int) l=((b &&& sN l:Nat):Int):=by
  conv=>lhs;rw[hl.eq]
  exact Adv (Ab7 hb) hl.top
 have e2:bAnd .u32 (b:Int) r=((b &&& sN r:Nat):Int):=by
  conv=>lhs;rw[hr.eq]
  exact Adv (Ab7 hb) hr.top
 have e3:Aae .u32 (b:Int) r=((Aa7 b (sN r):Nat):Int):=by
  conv=>lhs;rw[hr.eq]
  exact Abp (Ab7 hb) hr.top
 have z:∀x:Nat,(((x:Nat):Int)==0)=decide (x=0):=fun x=>by
  rw[zK,beq_iff_eq,decide_eq_true_eq];omega
 have z2:∀x:Nat,(((x:Nat):Int)!=0)=decide (x≠0):=fun x=>by
  rw[zK,bne_iff_ne,decide_eq_true_eq];omega
 unfold splI Abt;rw[e1,e2,e3,z,z2,z2]
def Apt{m:Int×Int}(hl:U32 m.1)(hr:U32 m.2):∀(S P N:List Nat)(ag:Bool),(∀b∈S,b<2^32)->P.length+S.length+N.length+S.length<=1000000 ->
  Ah7 m.1 m.2 S.length P.length (lN (P++S++N),ag)=some (lN (P++S.map (fun b=>if Abt (sN m.1,sN m.2) b=true then b &&& sN m.2 else b)++(N++(S.filter (Abt (sN m.1,sN m.2))).map fun b=>Aa7 b (sN m.2))),ag || S.any (Abt (sN m.1,sN m.2)))
 |[],P,N,ag,_,_=>by simp[Ah7]
 |b::S,P,N,ag,hS,hlen=>by
  have hb:=hS b (by simp);simp only[yG]at hlen;have hget:(lN (P++(b::S)++N))[P.length]?=some (b:Int):=by
   unfold lN;rw[zP,zQ,List.getElem?_append_right (zT _)];simp
  simp only[yG,Ah7,hget,Biw hl hr hb];cases hs:Abt (sN m.1,sN m.2) b with
  |false=>
   simp only[zI,if_false];have:=Apt hl hr S (P++[b]) N ag (fun c hc=>hS c (by simp[hc])) (by simp;omega);simp only[zG,yB,zQ,zR]at this⊢;rw[this];simp[hs]
  |true=>
   have e2:bAnd .u32 (b:Int) m.2=((b &&& sN m.2:Nat):Int):=by
    conv=>lhs;rw[hr.eq]
    exact Adv (Ab7 hb) hr.top
   have e3:Aae .u32 (b:Int) m.2=((Aa7 b (sN m.2):Nat):Int):=by
    conv=>lhs;rw[hr.eq]
    exact Abp (Ab7 hb) hr.top
   simp only[if_true];rw[if_pos (by rw[Abg];simp;omega),e2,e3];have hset:(lN (P++(b::S)++N)).set P.length ((b &&& sN m.2:Nat):Int)++[((Aa7 b (sN m.2):Nat):Int)]=lN ((P++[b &&& sN m.2])++S++(N++[Aa7 b (sN m.2)])):=by
    unfold lN;simp
   rw[hset];have:=Apt hl hr S (P++[b &&& sN m.2]) (N++[Aa7 b (sN m.2)]) true (fun c hc=>hS c (by simp[hc])) (by simp;omega);simp only[zG,yB,zQ,zR]at this⊢;rw[this];simp[hs]
def BPart.lt{rest n:Nat}{bs:List Nat}(h:BPart rest bs)(hr:rest<2^n){b:Nat}(hb:b∈bs):b<2^n:=Ad1.2 fun i hi=>Ad1.1 hr i ((h.all i).2 ⟨b,hb,hi⟩)
def Bam{rest:Nat}(hr:rest<2^32):∀{mv:List (Int×Int)},(∀m∈mv,U32 m.1/\U32 m.2)->∀{L:List Nat}(ag:Bool),BPart rest L ->
  Aki mv (lN L,ag)=some (lN (Aek (mv.map fun m=>(sN m.1,sN m.2)) L),ag || decide (L.length<(Aek (mv.map fun m=>(sN m.1,sN m.2)) L).length))
 |[],_,L,ag,_=>by simp[Aki,Aek]
 |m::mv,hm,L,ag,hp=>by
  have hlen:=hp.len hr;have h1:=Apt (m:=m) (hm m (by simp)).1 (hm m (by simp)).2 L [] [] ag (fun b hb=>hp.lt hr hb) (by simp;omega);simp only[zU,List.append_nil,yT]at h1;have h2:=Bam hr (fun m' h'=>hm m' (List.mem_cons_of_mem _ h')) (L:=Acb (sN m.1,sN m.2) L) (ag || L.any (Abt (sN m.1,sN m.2))) (hp.split _);simp only[Aki,Abg];rw[if_pos (by omega),h1];show Aki mv (lN (Acb (sN m.1,sN m.2) L),_)=_;rw[h2];simp only[List.map_cons,Aek,zJ,Prod.mk.injEq,true_and];have h3:=Alg (m:=(sN m.1,sN m.2)) (bs:=L);have h4:=Ama (mv:=mv.map fun m=>(sN m.1,sN m.2)) (bs:=Acb (sN m.1,sN m.2) L);rw[Bool.or_assoc];congr 1;rw[zK,yQ,decide_eq_true_eq,decide_eq_true_eq];constructor
  .rintro (h|h)
   .obtain ⟨b,hb,hs⟩:=yO.1 h;have:0<(L.filter (Abt (sN m.1,sN m.2))).length:=List.length_pos_of_mem (yH.2 ⟨hb,hs⟩);omega
   .omega
  .intro h;by_cases h0:(L.filter (Abt (sN m.1,sN m.2))).length=0
   .right;omega
   .left;obtain⟨b,hb⟩:=List.exists_mem_of_length_pos (Nat.pos_of_ne_zero h0);obtain⟨hb,hs⟩:=yH.1 hb;exact yO.2 ⟨b,hb,hs⟩
def Aut{rest:Nat}(hr:rest<2^32){mv:List (Int×Int)}(hm:∀m∈mv,U32 m.1/\U32 m.2):∀{k:Nat}{L:List Nat},BPart rest L->32<k+L.length->Aii mv k (lN L)=some (lN (Afw (mv.map fun m=>(sN m.1,sN m.2)) k L))
 |0,L,hp,hk=>absurd (hp.len hr) (by omega)
 |k+1,L,hp,hk=>by
  have h1:=Ama (mv:=mv.map fun m=>(sN m.1,sN m.2)) (bs:=L);simp only[Aii,Bam hr hm false hp,Afw,Bool.false_or,decide_eq_true_eq];by_cases he:(Aek (mv.map fun m=>(sN m.1,sN m.2)) L).length=L.length
  .rw [if_pos he,if_neg (by omega)]
  .rw [if_neg he,if_pos (by omega)];exact Aut hr hm hp.pass (by omega)
def Bej{n x:Nat}(hn:n<=16)(hx:x<2^32):Aio (n:Int) (x:Int)=lN (Alh (Aa7 (2^n-1) x)):=by
 have h1:=Asu hn;have h2:2^n-1<2^32:=zN (Nat.sub_lt (yK (by omega)) (by omega)) (zE (by omega) (by omega));have e:Akj (n:Int) (x:Int)=((Aa7 (2^n-1) x:Nat):Int):=by
  unfold Akj;rw[h1];exact Abp (Ab7 h2) (Ab7 hx)
 unfold Aio Alh;rw[e];by_cases h0:Aa7 (2^n-1) x=0
 .rw [if_pos h0,if_neg (by simp[h0])];rfl
 .rw [if_neg h0,if_pos (by simp;omega)];rfl
def Bio{E:Env}{f:Nat}{p:List D->Option (D×List D)}{q:List D->Ask}{ds:List D}{r:D}{outs:List D}(h1:E.prim f=some p)(h2:p ds=none)(h3:E.hand f=some q)(h4:∃N,∀n,N<=n->runAsk (Abu E n) (q ds)=some (r,outs)):Ret E f ds r outs:=by
 obtain⟨N,hN⟩:=h4;refine⟨N+1,fun m hm=>?_⟩;obtain⟨k,rfl⟩:∃k,m=k+1:=⟨m-1,by omega⟩
 simp only[Abu,h1,h2,h3];exact hN k (by omega)
def blkB(mv:List (Nat×Nat))(rest:Nat):List Nat:=Afw mv 40 (Alh rest)
def q105_.sP{n x:Nat}{mv:List api_MVD}(hn6:n<=6)(hx:x<2^32)(hm:Aeg mv)(hlen:mv.length<1000000):q105_.C n mv x (ordL (lN (blkB (mv.map mN) (Aa7 (2^n-1) x)))):=by
 have hn:n<=16:=by omega
 have h2:2^n-1<2^32:=zN (Nat.sub_lt (yK (by omega)) (by omega)) (zE (by omega) (by omega));have hrest6:Aa7 (2^n-1) x<2^6:=by
  have h6:2^n<=2^6:=zE (by decide) hn6;have h0:=yR n;exact zC Adf (by omega)
 have hrest:Aa7 (2^n-1) x<2^32:=zC Adf h2
 let mi:List (Int×Int):=mv.map fun d=>(d.Lhs,d.Rhs)
 have hmi:mi.map (fun m=>(sN m.1,sN m.2))=mv.map mN:=by simp only[mi,yF];rfl
 have henc:mv.map Aa4=mi.map eMv:=by simp only[mi,yF];rfl
 have hr:Aii mi 40 (Aio n x)=some (lN (blkB (mv.map mN) (Aa7 (2^n-1) x))):=by
  rw[Bej hn hx,Aut hrest (by intro m hm';obtain⟨d,hd,rfl⟩:=zS.1 hm';exact hm d hd) Akl (by omega),hmi];rfl
 have hp:BPart (Aa7 (2^n-1) x) (blkB (mv.map mN) (Aa7 (2^n-1) x)):=(Aqc hrest Akl (by omega)).1;have hord:=q90_.few (l:=lN (blkB (mv.map mN) (Aa7 (2^n-1) x))) (by have:=hp.len hrest6;rw[Abg];omega) (by
  intro y hy;obtain⟨b,hb,rfl⟩:=zS.1 hy
  exact U32.of (hp.lt hrest hb))
 obtain⟨N,hN⟩:=hord;refine Bio (p:=fun _=>none) (q:=Ags Blk.ordF) (by kernel_rfl) rfl (by kernel_rfl) ⟨N,fun m hm'=>?_⟩;simp only[Ags,henc,Awp];rw[if_pos ⟨by omega,by simp only[mi,zH];exact hlen⟩,hr];simp only[runAsk];have:Abu env m Blk.ordF [.sl ((lN (blkB (mv.map mN) (Aa7 (2^n-1) x))).map (eI .u32))]=some (.sl ((ordL (lN (blkB (mv.map mN) (Aa7 (2^n-1) x)))).map (eI .u32)),[]):=hN m hm';rw[this];rfl
def Am1(d:api_FD):List api_MVD:=(Aal (sN d.Rhs)).map fun(a:Nat)=>⟨d.Lhs,((2^a:Nat):Int)⟩
def allI(fds:List api_FD)(mvds:List api_MVD):List api_MVD:=mvds++fds.flatMap Am1
def Bfk{d:api_FD}:(Am1 d).length<=32:=by unfold Am1;rw[zH];exact Afd
def q119_.sP{fds:List api_FD}{mvds:List api_MVD}(hf:FdOK fds)(h1:fds.length<=64)(h2:mvds.length<=64):q119_.C fds mvds (allI fds mvds):=by
 obtain⟨r,e1,e2⟩:=q119_.nt fds mvds (fun r=>r=allI fds mvds) (by
  refine⟨by omega,?_⟩;have go:∀(l:List api_FD)(i:Nat)(acc:List api_MVD),fds.drop i=l->acc.length<=64+32*i->acc++l.flatMap Am1=allI fds mvds->q119_.L1 fds acc (i:Int) (fun r=>r=allI fds mvds):=by
   intro l
   induction l with
   |nil=>
    intro i acc hd hl h;have:=Aap hd;apply q119_.K1;rw[if_neg (by omega)];simpa using h
   |cons d l ih=>
    intro i acc hd hl h;have hlt:=Aaq hd;have hdm:=hf d (zB (Aab hd));apply q119_.K1;rw[if_pos (by omega)];have hmem:=q69_.sP hdm.2.lt;rw[<-hdm.2.eq]at hmem;refine⟨d,Ab9 hd,_,hmem,?_⟩;have hbl:=Afd (n:=sN d.Rhs);have inner:∀(t:List Nat)(k:Nat)(acc:List api_MVD),(Aal (sN d.Rhs)).drop k=t->k<=(Aal (sN d.Rhs)).length->acc.length<=64+32*i+k->acc++(t.map fun(a:Nat)=>(⟨d.Lhs,((2^a:Nat):Int)⟩:api_MVD))++l.flatMap Am1=allI fds mvds->q119_.L2 fds acc d (i:Int) ((Aal (sN d.Rhs)).map fun(i:Nat)=>(i:Int)) (k:Int) (fun r=>r=allI fds mvds):=by
     intro t
     induction t with
     |nil=>
      intro k acc hk hkl hl2 h2;have:=Aap hk;apply q119_.K2;rw[if_neg (by simp;omega),Aa5 (by omega)];exact ih (i+1) acc (Aa8 hd) (by omega) (by simpa using h2)
     |cons a t ih2=>
      intro k acc hk hkl hl2 h2;have hklt:=Aaq hk;have ha:=Aab hk;have ha32:a<32:=Ad1.1 hdm.2.lt a ((Abk hdm.2.lt).1 (zB ha));apply q119_.K2;rw[if_pos (by simp;omega)];refine⟨(a:Int),Ab6 (by simp[ha]),by omega,by omega,?_⟩;rw[Aa5 (by omega),Asz (k:=.u32) (by simpa[top]using ha32)];exact ih2 (k+1) _ (Aa8 hk) (by omega) (by simp;omega) (by simpa using h2)
    exact inner (Aal (sN d.Rhs)) 0 acc rfl (by omega) (by omega) (by
     rw[zQ]
     simpa[Am1]using h)
  exact go fds 0 mvds rfl (by omega) rfl)
 rw[<-e1];exact e2
def Bh6{fds:List api_FD}{mvds:List api_MVD}(hf:FdOK fds):(allI fds mvds).map mN=Ai0 (fds.map fN) (mvds.map mN):=by
 unfold allI Ai0;rw[yS,List.map_flatMap,List.flatMap_map];congr 1;refine flatMap_congr' fun d hd=>?_;unfold Am1 fdMv;rw[yF];refine List.map_congr_left fun a ha=>?_;show(sN d.Lhs,sN ((2^a:Nat):Int))=_;rw[Aco];rfl
def Bja{fds:List api_FD}{mvds:List api_MVD}(hf:FdOK fds)(hm:Aeg mvds):Aeg (allI fds mvds):=by
 intro d hd;rcases zV.1 hd with hd|hd
 .exact hm d hd
 .obtain ⟨f,hfm,hd⟩:=List.mem_flatMap.1 hd;obtain⟨a,ha,rfl⟩:=zS.1 hd;have hR:=(hf f hfm).2.lt;have ha32:a<32:=Ad1.1 hR a ((Abk hR).1 ha);exact⟨(hf f hfm).1,U32.of (Nat.pow_lt_pow_right (by omega) ha32)⟩
def Bh5{fds:List api_FD}{mvds:List api_MVD}(h1:fds.length<=64)(h2:mvds.length<=64):(allI fds mvds).length<1000000:=by
 have:(fds.flatMap Am1).length<=fds.length*32:=by
  clear h1
  induction fds with
  |nil=>simp
  |cons d l ih=>
   have:=Bfk (d:=d);simp only[List.flatMap_cons,zG,yG];omega
 unfold allI;rw[zG];omega
def q105_.all{n x:Nat}{fds:List api_FD}{mvds:List api_MVD}(hn:n<=6)(hx:x<2^32)(hf:FdOK fds)(hm:Aeg mvds)(h1:fds.length<=64)(h2:mvds.length<=64):q105_.C n (allI fds mvds) x (ordL (lN (finB (fds.map fN) (mvds.map mN) (Aa7 (2^n-1) x)))):=by
 have:=q105_.sP hn hx (Bja hf hm) (Bh5 h1 h2);rw[Bh6 hf]at this;exact this
end Go.Own
