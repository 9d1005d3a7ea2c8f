/- No conditions. -/
import Derived.Test.YtbmbbljdpnpmeaaGreatDoorTopCoversLaw11
import Derived.Test.YtbmbbljdpnpmeaaGreatDoorTopCoversLaw12
set_option linter.all false
namespace Go.Own
def ltS (x y:Int):Bool:=decide (keyS x<keyS y)
theorem Bjn:Go.Sort.SWO ltS where
 irrefl:=fun x=>by unfold ltS;simp
 trans:=fun x y z h1 h2=>by unfold ltS at *;simp only [decide_eq_true_eq] at *;omega
 ntrans:=fun x y z h1 h2=>by unfold ltS at *;simp only [decide_eq_false_iff_not] at *;omega
theorem q53_.spec {x y:Int}:q53_.C x y (cmpI x y):=by
 obtain ⟨f1,g1,k1⟩:=q72_.enter x (fun r=>r=false) (by simp);obtain ⟨f2,g2,k2⟩:=q72_.enter y (fun r=>r=false) (by simp);subst g1 g2;obtain ⟨r,h1,h2⟩:=q53_.enter x y (fun r=>r=cmpI x y) (by
  refine ⟨_,k1,_,k2,?_⟩;rw [if_neg (by decide),if_neg (by decide)];unfold cmpI
  split
  ·rfl
  ·split<;>rfl)
 rw [← h1];exact h2
theorem q37_.spec {x y:Int}:q37_.C x y (cmpI x y):=by
 obtain ⟨f1,g1,k1⟩:=q42_.enter x (fun r=>r=false) (by simp);obtain ⟨f2,g2,k2⟩:=q42_.enter y (fun r=>r=false) (by simp);subst g1 g2;obtain ⟨r,h1,h2⟩:=q37_.enter x y (fun r=>r=cmpI x y) (by
  refine ⟨_,k1,_,k2,?_⟩;rw [if_neg (by decide),if_neg (by decide)];unfold cmpI
  split
  ·rfl
  ·split<;>rfl)
 rw [← h1];exact h2
theorem q90_.two {a b:Int}:q90_.C [a,b] (if a=0 then b else a):=by
 obtain ⟨r,h1,h2⟩:=q90_.enter [a,b] (fun r=>r=if a=0 then b else a) (by
  apply q90_.L1_step;rw [if_pos (by simp)];refine ⟨a,rfl,?_⟩;by_cases ha:a=0
  ·rw [if_pos ha];apply q90_.L1_step;have e:IntKind.wrap .i64 ((0:Int)+1)=1:=by decide
   rw [e,if_pos (by simp)];refine ⟨b,rfl,?_⟩;by_cases hb:b=0
   ·rw [if_pos hb];apply q90_.L1_step;have e:IntKind.wrap .i64 ((1:Int)+1)=2:=by decide
    rw [e,if_neg (by simp),if_pos ha,hb]
   ·rw [if_neg hb,if_pos ha]
  ·rw [if_neg ha,if_neg ha])
 rw [← h1];exact h2
theorem Bh8:Amb U32 ltS q54_.C:=fun x y hx hy=>by
 obtain ⟨r,h1,h2⟩:=q54_.enter x y (fun r=>r<0↔ltS x y=true) (by
  refine ⟨_,q79_.spec hx,_,q79_.spec hy,_,q53_.spec,_,q37_.spec,_,q90_.two,?_⟩;unfold ltS;rw [decide_eq_true_eq,Bjj hx hy];have ex:=hx.eq;have ey:=hy.eq;unfold cmpI;generalize szN (sN x)=s at *;generalize szN (sN y)=t at *;by_cases h1:(s:Int)<t
  ·rw [if_pos h1,if_neg (by decide)];omega
  ·rw [if_neg h1];by_cases h2:(t:Int)<s
   ·rw [if_pos h2,if_neg (by decide)];omega
   ·rw [if_neg h2,if_pos rfl]
    split
    ·omega
    ·split<;>omega)
 exact ⟨r,h2,h1⟩
theorem Anj:∀ (l:List Int) (a b:Int),Aaw (l++[a]++[b])=if a=b then Aaw (l++[a]) else Aaw (l++[a])++[b]
 | [],a,b=>by
  simp only [List.nil_append,List.singleton_append,Aaw]
  split<;>simp_all
 | [c],a,b=>by
  simp only [List.singleton_append,List.cons_append,List.nil_append,Aaw]
  split<;>split<;>simp_all
 | c::d::r,a,b=>by
  have ih:=Anj (d::r) a b;simp only [List.cons_append,Aaw] at ih ⊢;rw [ih]
  split<;>split<;>simp
theorem Aiy {l:List Int} {m:Nat} {a:Int} (h:l[m]? = some a):l.take (m+1)=l.take m++[a]:=by
 rw [List.take_add_one,h];rfl
theorem Ao6 {l:List Int} {m:Nat} {a b:Int} (ha:l[m]? = some a) (hb:l[m+1]? = some b):Aaw (l.take (m+2))=if a=b then Aaw (l.take (m+1)) else Aaw (l.take (m+1))++[b]:=by
 have e1:l.take (m+2)=l.take m++[a]++[b]:=by rw [Aiy (m:=m+1) hb,Aiy ha]
 rw [e1,Aiy ha,Anj]
namespace q23_
theorem inner {l:List Int} {o:Nat} {φ:List Int×Bool->Prop} (ho:1<=o) (hol:o<l.length) (hl:l.length<4611686018427387904) (h:∀ b,φ (Aaw l,b)) (n:Nat):∀ (s:List Int) (k k2:Nat),l.length-o-k2<=n->1<=k2->o+k2<=l.length->s.length=l.length->k<=o+k2-1->s.take k=Aaw (l.take (o+k2))->(∀ i,o+k2-1<=i->s[i]? = l[i]?)->L2 s k o (l.length-o) k2 φ:=by
 have hend:∀ (s:List Int) (k k2:Nat),o+k2=l.length->s.length=l.length->k<=o+k2-1->s.take k=Aaw (l.take (o+k2))->L2 s k o (l.length-o) k2 φ:=fun s k k2 hk2 hs hk ht=>by
  apply L2_step;refine ⟨by omega,?_⟩;rw [if_neg (by rw [List.length_take,List.length_drop];omega)];refine ⟨by omega,⟨by omega,by omega⟩,by omega,by omega,by omega,by omega,⟨by omega,by omega,by omega⟩,?_⟩;rw [Int.toNat_natCast];have e:s.take k=Aaw l:=by rw [ht,List.take_of_length_le (by omega)]
  rw [e];exact h _
 induction n with
 | zero=>intro s k k2 hn h1 hk2 hs hk ht hd;exact hend s k k2 (by omega) hs hk ht
 | succ n ih=>
  intro s k k2 hn h1 hk2 hs hk ht hd;by_cases hlt:o+k2<l.length
  ·apply L2_step;refine ⟨by omega,?_⟩;rw [if_pos (by rw [List.length_take,List.length_drop];omega)];obtain ⟨b,hb⟩:∃ b,l[o+k2]? = some b:=⟨_,List.getElem?_eq_getElem hlt⟩
   obtain ⟨a,ha⟩:∃ a,l[o+k2-1]? = some a:=⟨_,List.getElem?_eq_getElem (by omega)⟩
   have e1:(o:Int)+(k2:Int)=((o+k2:Nat):Int):=by omega
   have e2:IntKind.wrap .i64 ((k2:Int)-1)=((k2-1:Nat):Int):=wx _ _ (by omega) (by omega);have e3:(o:Int)+((k2-1:Nat):Int)=((o+k2-1:Nat):Int):=by omega
   have e4:IntKind.wrap .i64 ((k2:Int)+1)=((k2+1:Nat):Int):=wx _ _ (by omega) (by omega);have e5:IntKind.wrap .i64 ((k:Int)+1)=((k+1:Nat):Int):=wx _ _ (by omega) (by omega);rw [e1,e2,e3];have hstep:=Ao6 (l:=l) (m:=o+k2-1) ha (by rw [show o+k2-1+1=o+k2 by omega];exact hb);rw [show o+k2-1+2=o+(k2+1) by omega,show o+k2-1+1=o+k2 by omega] at hstep;refine ⟨b,by rw [Ab4,hd _ (by omega)];exact hb,⟨by omega,by omega⟩,by omega,a,by rw [Ab4,hd _ (by omega)];exact ha,⟨by omega,by omega⟩,by omega,?_⟩;by_cases hab:b=a
   ·rw [if_pos hab];apply L3_step;rw [e4];rw [if_pos hab.symm] at hstep;exact ih s k (k2+1) (by omega) (by omega) (by omega) hs (by omega) (by rw [ht,hstep]) (fun i hi=>hd i (by omega))
   ·rw [if_neg hab];rw [if_neg (fun h=>hab h.symm)] at hstep;obtain ⟨c,hc⟩:∃ c,s[k]? = some c:=⟨_,List.getElem?_eq_getElem (by omega)⟩
    refine ⟨⟨by omega,by omega⟩,by omega,c,by rw [Ab4];exact hc,?_⟩;apply L3_step;rw [e4,e5];have hls:lset s (k:Int) b=s.set k b:=by unfold lset;rw [Int.toNat_natCast]
    rw [hls];refine ih (s.set k b) (k+1) (k2+1) (by omega) (by omega) (by omega) (by rw [List.length_set];exact hs) (by omega) ?_ (fun i hi=>?_)
    ·rw [hstep,← ht,Aiy (a:=b) (by rw [List.getElem?_set_self (by omega)])];congr 1;rw [List.take_set_of_le (Nat.le_refl k)]
    ·rw [List.getElem?_set_ne (by omega)];exact hd i (by omega)
  ·exact hend s k k2 (by omega) hs hk ht
theorem outer {l:List Int} {φ:List Int×Bool->Prop} (hl:l.length<4611686018427387904) (h:∀ b,φ (Aaw l,b)) (n:Nat):∀ i,l.length-i<=n->1<=i->i<=l.length->Aaw (l.take i)=l.take i->L1 l i φ:=by
 induction n with
 | zero=>
  intro i hn h1 hi hc;apply L1_step;rw [if_neg (by omega)];have e:i=l.length:=by omega
  rw [e,List.take_length] at hc;have:=h true
  rwa [hc] at this
 | succ n ih=>
  intro i hn h1 hi hc;by_cases hlt:i<l.length
  ·apply L1_step;rw [if_pos (by omega)];obtain ⟨b,hb⟩:∃ b,l[i]? = some b:=⟨_,List.getElem?_eq_getElem hlt⟩
   obtain ⟨a,ha⟩:∃ a,l[i-1]? = some a:=⟨_,List.getElem?_eq_getElem (by omega)⟩
   have e2:IntKind.wrap .i64 ((i:Int)-1)=((i-1:Nat):Int):=wx _ _ (by omega) (by omega);have e4:IntKind.wrap .i64 ((i:Int)+1)=((i+1:Nat):Int):=wx _ _ (by omega) (by omega);rw [e2,e4];have hstep:=Ao6 (l:=l) (m:=i-1) ha (by rw [show i-1+1=i by omega];exact hb);rw [show i-1+2=i+1 by omega,show i-1+1=i by omega] at hstep;refine ⟨b,by rw [Ab4];exact hb,a,by rw [Ab4];exact ha,?_⟩;by_cases hab:b=a
   ·rw [if_pos hab];rw [if_pos hab.symm] at hstep;refine ⟨by omega,⟨by omega,by omega⟩,?_⟩;rw [Int.toNat_natCast];exact inner (o:=i) h1 hlt hl h (l.length-i-1) l i 1 (Nat.le_refl _) (Nat.le_refl _) (by omega) rfl (by omega) (by rw [hstep,hc]) (fun _ _=>rfl)
   ·rw [if_neg hab];rw [if_neg (fun h=>hab h.symm)] at hstep;exact ih (i+1) (by omega) (by omega) (by omega) (by rw [hstep,hc,Aiy hb])
  ·apply L1_step;rw [if_neg (by omega)];have e:i=l.length:=by omega
   rw [e,List.take_length] at hc;have:=h true
   rwa [hc] at this
theorem spec {l:List Int} (hl:l.length<4611686018427387904):∃ b,C l (Aaw l,b):=by
 obtain ⟨r,⟨b,rfl⟩,h2⟩:=enter l (fun r=>∃ b,r=(Aaw l,b)) (by
  split
  ·rename_i h;refine ⟨true,?_⟩
   match l,h with
   | [],_=>rfl
   | [a],_=>rfl
   | _::_::_,h=>simp at h;omega
  ·rename_i h;have:1<=l.length:=by omega
   exact outer hl (fun b=>⟨b,rfl⟩) (l.length-1) 1 (by omega) (by omega) this (by
    obtain ⟨a,r,rfl⟩:∃ a r,l=a::r:=by cases l with
     | nil=>simp at this
     | cons a r=>exact ⟨a,r,rfl⟩
    rfl))
 exact ⟨b,h2⟩
end q23_
theorem q74_.spec {l:List Int} (hl:l.length<=35184372088832) (hu:AllU l):q74_.C l (ordL l):=by
 obtain ⟨r,h1,h2⟩:=q74_.enter l (fun r=>r=ordL l) (by
  obtain ⟨s,c,hp,ha⟩:=q14_.spec Bh8 Bjn (l:=l) (by omega) hu;have hlen:=hp.length_eq;obtain ⟨b,c2⟩:=q23_.spec (l:=s) (by omega);refine ⟨by omega,s,c,_,c2,?_⟩;have hus:AllU s:=fun x hx=>hu x (hp.mem_iff.1 hx);refine Ba3 hu (Ajr hus (ha.imp fun h=>?_)) fun y=>by rw [Ah0,hp.mem_iff]
  unfold ltS at h;simp only [decide_eq_false_iff_not] at h;omega)
 rw [← h1];exact h2
def subL (s:Nat):List Int:=(bsL 32 s).map fun (n:Nat)=>(n:Int)
theorem Ard {s:Nat} (hs:s<2^32) {y:Int}:y∈subL s↔∃ n:Nat,y=n/\n &&& s=n:=by
 unfold subL;rw [List.mem_map];constructor
 ·rintro ⟨n,hn,rfl⟩;exact ⟨n,rfl,(Atf hs n).1 hn⟩
 ·rintro ⟨n,rfl,hn⟩;exact ⟨n,(Atf hs n).2 hn,rfl⟩
theorem Ai8 {s:Nat} (hs:s<2^32):AllU (subL s):=fun y hy=>by
 obtain ⟨n,rfl,hn⟩:=(Ard hs).1 hy;have:=Ay8 hn;exact U32.of (by omega)
def Aeu (s:Nat):List Int:=if 12<szN s then [] else ordL (subL s)
theorem Az1 {x:Int} (hx:U32 x):keyS x<33*4294967296:=by
 have h1:=hx.lt;have h2:=Bln (n:=sN x);unfold keyS;omega
theorem Bcp {l:List Int} (hu:AllU l) (ha:Asc l):l.length<=33*4294967296:=Bgw keyS ha fun x hx=>Az1 (hu x hx)
theorem Bec {s:Nat} (hs:s<2^32):(Aeu s).length<=33*4294967296:=by
 unfold Aeu
 split
 ·simp
 ·exact Bcp (Bg2 (Ai8 hs)) (Amy (Ai8 hs))
theorem Au0 {l:List Int} (hu:AllU l) (hn:l.Nodup):(ordL l).length=l.length:=by
 have h1:(ordL l).Nodup:=(Amy hu).imp fun {a b} h=>fun e=>by subst e;omega
 exact ((List.perm_ext_iff_of_nodup h1 hn).2 fun y=>Agk hu y).length_eq
theorem Bc2 {s:Nat} (hs:s<2^32):(ordL (subL s)).length=2^szN s:=by
 rw [Au0 (Ai8 hs)]
 ·unfold subL;rw [List.length_map,Azn];rfl
 ·unfold subL;have h1:(bsL 32 s).Nodup:=Azm.imp fun {a b} h=>by omega
  exact List.Pairwise.map _ (fun a b h=>by omega) h1
theorem q56_.loop {s:Nat} (hs:s<2^32) {φ:List Int->Prop} (h:φ (ordL (subL s))) (n:Nat):∀ (x:Nat) (out:List Int),x<=n->x &&& s=x->out.length+x<=s+1->(∀ y,y∈out↔∃ m:Nat,y=m/\m &&& s=m/\x<=m)->q56_.L1 s out x φ:=by
 induction n with
 | zero=>
  intro x out hx hsub hl hm;have:x=0:=by omega
  subst this;apply q56_.L1_step;rw [if_pos (by omega)];have hmem:∀ y,y∈out↔y∈subL s:=fun y=>by
   rw [hm,Ard hs];constructor
   ·rintro ⟨m,a,b,_⟩;exact ⟨m,a,b⟩
   ·rintro ⟨m,a,b⟩;exact ⟨m,a,b,Nat.zero_le _⟩
  have hu:AllU out:=fun y hy=>Ai8 hs y ((hmem y).1 hy);refine ⟨_,q74_.spec (by omega) hu,?_⟩;rw [Bbk (Ai8 hs) hmem];exact h
 | succ n ih=>
  intro x out hx hsub hl hm;by_cases h0:x=0
  ·exact ih x out (by omega) hsub hl hm
  ·apply q56_.L1_step;rw [if_neg (by omega)];refine ⟨by omega,?_⟩;have hxs:=Ay8 hsub;have e1:IntKind.wrap .u32 ((x:Int)-1)=((x-1:Nat):Int):=by
    rw [show (x:Int)-1=((x-1:Nat):Int) by omega];exact Abx (k:=.u32) (by simp only [top];omega)
   rw [e1,Aem (k:=.u32) (by simp only [top];omega) (by simpa [top] using hs)];have hp:(x-1) &&& s<=x-1:=Nat.and_le_left;refine ih _ _ (by omega) (by rw [Nat.and_assoc,Nat.and_self]) (by rw [List.length_append,List.length_singleton];omega) fun y=>?_;rw [List.mem_append,hm,List.mem_singleton];constructor
   ·rintro (⟨m,a,b,c⟩ | rfl)
    ·exact ⟨m,a,b,by omega⟩
    ·exact ⟨_,rfl,by rw [Nat.and_assoc,Nat.and_self],Nat.le_refl _⟩
   ·rintro ⟨m,rfl,b,c⟩;rcases Nat.lt_or_ge m x with h1 | h1
    ·right;have:=Bg5 x s m hsub (by omega) b h1;have:m=(x-1) &&& s:=by omega
     rw [this]
    ·exact .inl ⟨m,rfl,b,h1⟩
theorem q56_.spec {s:Nat} (hs:s<2^32):q56_.C s (Aeu s):=by
 obtain ⟨r,h1,h2⟩:=q56_.enter s (fun r=>r=Aeu s) (by
  have hz:=q79_.spec (x:=(s:Int)) (U32.of hs);rw [Ab2] at hz;refine ⟨_,hz,?_⟩;unfold Aeu;by_cases h12:12<szN s
  ·rw [if_pos (by omega),if_pos h12]
  ·rw [if_neg (by omega),if_neg h12];refine q56_.loop (φ:=fun r=>r=ordL (subL s)) hs (Eq.refl _) s s [(s:Int)] (Nat.le_refl s) (Nat.and_self s) (by rw [List.length_singleton];omega) fun y=>?_;rw [List.mem_singleton];constructor
   ·rintro rfl;exact ⟨s,rfl,Nat.and_self s,Nat.le_refl _⟩
   ·rintro ⟨m,rfl,b,c⟩;have:=Ay8 b;have:m=s:=by omega
    rw [this])
 rw [← h1];exact h2
theorem At1:∀ n:Nat,n<=16->szN (2^n-1)=n:=by
 intro n hn;have:∀ i:Fin 17,szN (2^i.val-1)=i.val:=by decide +kernel
 exact this ⟨n,by omega⟩
theorem Baa {m n:Nat}:m &&& (2^n-1)=m↔m<2^n:=by
 rw [Nat.and_two_pow_sub_one_eq_mod];constructor
 ·intro h;rw [← h];exact Nat.mod_lt _ (Nat.pow_pos (by omega))
 ·exact Nat.mod_eq_of_lt
def rngL (n:Nat):List Int:=(List.range (2^n)).map fun (m:Nat)=>(m:Int)
theorem Bg7 {n:Nat} {y:Int}:y∈rngL n↔∃ m:Nat,y=m/\m<2^n:=by
 unfold rngL;rw [List.mem_map];constructor
 ·rintro ⟨m,hm,rfl⟩;exact ⟨m,rfl,List.mem_range.1 hm⟩
 ·rintro ⟨m,rfl,hm⟩;exact ⟨m,List.mem_range.2 hm,rfl⟩
theorem Abu {n:Nat} (hn:n<=16):2^n<=65536/\0<2^n:=⟨Nat.pow_le_pow_right (n:=2) (by omega) hn,Nat.pow_pos (by omega)⟩
theorem Bm8 {n:Nat} (hn:n<=16):AllU (rngL n):=fun y hy=>by
 obtain ⟨m,rfl,hm⟩:=Bg7.1 hy;have:=Abu hn;exact U32.of (by omega)
theorem Avq {n:Nat} (hn:n<=12):Aeu (2^n-1)=ordL (subL (2^n-1)):=by
 unfold Aeu;rw [if_neg (by rw [At1 n (by omega)];omega)]
theorem Akd {n:Nat} (hn:n<=12) {y:Int}:y∈Aeu (2^n-1)↔∃ m:Nat,y=m/\m<2^n:=by
 have hp:=Abu (n:=n) (by omega);have hs:2^n-1<2^32:=by omega
 rw [Avq hn,Agk (Ai8 hs),Ard hs];constructor
 ·rintro ⟨m,rfl,h⟩;exact ⟨m,rfl,Baa.1 h⟩
 ·rintro ⟨m,rfl,h⟩;exact ⟨m,rfl,Baa.2 h⟩
theorem Ay9 {n:Nat} (hn:n<=12):AllU (Aeu (2^n-1)):=fun y hy=>by
 obtain ⟨m,rfl,hm⟩:=(Akd hn).1 hy;have:=Abu (n:=n) (by omega);exact U32.of (by omega)
theorem An9 {n:Nat} (hn:n<=12):(Aeu (2^n-1)).length=2^n:=by
 have hp:=Abu (n:=n) (by omega);rw [Avq hn,Bc2 (by omega),At1 n (by omega)]
theorem Bbm (d:api_FD) (l:List api_FD) (s:Nat):Adj (d::l) s=Adj l (if sN d.Lhs &&& s=sN d.Lhs then s ||| sN d.Rhs else s):=rfl
theorem Ae2 {a:Int} {s:Nat} (ha:U32 a) (hs:s<2^32):Aaa .u32 a s=0↔sN a &&& s=sN a:=by
 have e:Aaa .u32 a s=((Acv (sN a) s:Nat):Int):=by
  conv=>lhs;rw [ha.eq]
  exact Aic ha.top (by simpa [top] using hs)
 rw [e,Ado,← Bbh];omega
theorem Blj {a:Int} {s:Nat} (ha:U32 a) (hs:s<2^32):bOr .u32 s a=((s ||| sN a:Nat):Int):=by
 conv=>lhs;rw [ha.eq]
 exact Ajj (by simpa [top] using hs) ha.top
namespace q75_
theorem pass {l:List api_FD} (hl:FdOK l) (hn:l.length<1000000000) {b:Int} {φ:Int->Prop}:∀ (r:List api_FD) (k s:Nat),l.drop k=r->s<2^32->(if ((Adj r s:Nat):Int)=b then φ ((Adj r s:Nat):Int) else L1 l ((Adj r s:Nat):Int) φ)->L2 l s b k φ:=by
 intro r
 induction r with
 | nil=>
  intro k s hd hs h;have:=Aax hd;apply L2_step;rw [if_neg (by omega)];exact h
 | cons d r ih=>
  intro k s hd hs h;have hlt:=Aay hd;have hd':=hl d (List.mem_of_getElem? (Aaj hd));apply L2_step;rw [if_pos (by omega)];refine ⟨d,Aar hd,?_⟩;rw [Bbm] at h;by_cases hz:sN d.Lhs &&& s=sN d.Lhs
  ·rw [if_pos ((Ae2 hd'.1 hs).2 hz),Blj hd'.2 hs];rw [if_pos hz] at h;apply L3_step;rw [Aa3 (by omega)];exact ih (k+1) _ (Aa7 hd) (Nat.or_lt_two_pow hs hd'.2.lt) h
  ·rw [if_neg (fun hh=>hz ((Ae2 hd'.1 hs).1 hh))];rw [if_neg hz] at h;apply L3_step;rw [Aa3 (by omega)];exact ih (k+1) s (Aa7 hd) hs h
theorem loop {l:List api_FD} (hl:FdOK l) (hn:l.length<1000000000) {φ:Int->Prop}:∀ (k s:Nat),s<2^32->33<=k+szN s->φ ((Agf l k s:Nat):Int)->L1 l s φ
 | 0,s,hs,hk,h=>by have:=Afu (n:=s);unfold szN at hk;omega
 | k+1,s,hs,hk,h=>by
  have hr:∀ d∈l,sN d.Rhs<2^32:=fun d hd=>(hl d hd).2.lt;apply L1_step;refine pass hl hn l 0 s rfl hs ?_;rw [Agf] at h;by_cases hz:Adj l s=s
  ·rw [if_pos (by rw [hz]),hz];rw [hz,Aot hz] at h;exact h
  ·rw [if_neg (by omega)];have:=Bee (Ai5 (l:=l)) (Ne.symm hz) (Ai4 hs hr);exact loop hl hn k _ (Ai4 hs hr) (by omega) h
theorem spec {l:List api_FD} (hl:FdOK l) (hn:l.length<1000000000) {s:Nat} (hs:s<2^32):C l s ((cloN l s:Nat):Int):=by
 obtain ⟨r,h1,h2⟩:=enter l s (fun r=>r=((cloN l s:Nat):Int)) (loop hl hn 33 s hs (by omega) rfl);rw [← h1];exact h2
end q75_
def cloB (l:List api_FD) (s:Nat):Bool:=l.all fun d=>!decide (sN d.Lhs &&& s=sN d.Lhs) || decide (sN d.Rhs &&& s=sN d.Rhs)
theorem Amj {l:List api_FD} {s:Nat}:cloB l s=true↔Ad3 l s:=by
 unfold cloB Ad3;rw [List.all_eq_true];constructor
 ·intro h d hd hs;have:=h d hd;rw [decide_eq_true (Ado.2 hs),Bool.not_true,Bool.false_or,decide_eq_true_iff] at this;exact Ado.1 this
 ·intro h d hd;by_cases hs:sN d.Lhs &&& s=sN d.Lhs
  ·rw [decide_eq_true hs,decide_eq_true (Ado.2 (h d hd (Ado.1 hs)))];rfl
  ·rw [decide_eq_false hs];rfl
theorem q45_.spec {l:List api_FD} (hl:FdOK l) (hn:l.length<1000000000) {s:Nat} (hs:s<2^32):∃ r,q45_.C l s r/\(r<0↔cloB l s=true):=by
 obtain ⟨r,h1,h2⟩:=q45_.enter l s (fun r=>(r<0↔cloB l s=true)) (by
  have:∀ (r:List api_FD) (k:Nat),l.drop k=r->(cloB r s=cloB l s)->q45_.L1 l s k (fun r=>(r<0↔cloB l s=true)):=by
   intro r
   induction r with
   | nil=>
    intro k hd he;have:=Aax hd;apply q45_.L1_step;rw [if_neg (by omega),← he];simp [cloB]
   | cons d r ih=>
    intro k hd he;have hlt:=Aay hd;have hd':=hl d (List.mem_of_getElem? (Aaj hd));have ec:cloB (d::r) s=((!decide (sN d.Lhs &&& s=sN d.Lhs) || decide (sN d.Rhs &&& s=sN d.Rhs))&&cloB r s):=rfl;rw [ec] at he;have next:cloB r s=cloB l s->q45_.L2 l s k (fun r=>(r<0↔cloB l s=true)):=fun h=>by
     apply q45_.L2_step;rw [Aa3 (by omega)];exact ih (k+1) (Aa7 hd) h
    apply q45_.L1_step;rw [if_pos (by omega)];refine ⟨d,Aar hd,?_⟩;by_cases h1:sN d.Lhs &&& s=sN d.Lhs
    ·rw [if_pos ((Ae2 hd'.1 hs).2 h1)];by_cases h2:sN d.Rhs &&& s=sN d.Rhs
     ·rw [if_pos ((Ae2 hd'.2 hs).2 h2)];exact next (by rw [← he,decide_eq_true h1,decide_eq_true h2];rfl)
     ·rw [if_neg (fun hh=>h2 ((Ae2 hd'.2 hs).1 hh)),← he,decide_eq_true h1,decide_eq_false h2];simp
    ·rw [if_neg (fun hh=>h1 ((Ae2 hd'.1 hs).1 hh))];exact next (by rw [← he,decide_eq_false h1];rfl)
  exact this l 0 rfl rfl)
 exact ⟨r,h2,h1⟩
def Aaq (n:Nat) (l:List api_FD):List Int:=(Aeu (2^n-1)).filter fun y=>cloB l (sN y)
def Aht (n:Int) (l:List api_FD):List Int×Int:=if n<0∨16<n then ([],7) else if 12<n then ([],3) else if fdsE n l=0 then (Aaq n.toNat l,0) else ([],fdsE n l)
theorem Ar6 {n:Nat} (hn:n<=16):IntKind.wrap .u32 (shlw .u32 1 (n:Int)-1)=((2^n-1:Nat):Int):=by
 have hp:=Abu hn;have e:shlw .u32 1 (n:Int)=((2^n:Nat):Int):=Agl (k:=.u32) (by simp only [top];omega);rw [e,show (((2^n:Nat):Int)-1)=((2^n-1:Nat):Int) by omega];exact Abx (k:=.u32) (by simp only [top];omega)
theorem q68_.spec {n:Int} {l:List api_FD} (hl:FdOK l) (hn:l.length<1000000000):q68_.C n l (Aht n l):=by
 obtain ⟨r,h1,h2⟩:=q68_.enter n l (fun r=>r=Aht n l) (by
  unfold Aht;by_cases a:n<0
  ·rw [if_pos a,if_pos (.inl a)]
  rw [if_neg a];by_cases b:16<n
  ·rw [if_pos b,if_pos (.inr b)]
  rw [if_neg b,if_neg (show ¬(n<0∨16<n) by omega)];by_cases c:12<n
  ·rw [if_pos c,if_pos c]
  rw [if_neg c,if_neg c];refine ⟨_,q71_.spec hl,?_⟩
  split
  ·obtain ⟨m,rfl⟩:∃ m:Nat,n=m:=⟨n.toNat,by omega⟩
   have hp:=Abu (n:=m) (by omega);rw [Ar6 (by omega),Int.toNat_natCast];refine ⟨by omega,_,q56_.spec (by omega),?_⟩;unfold Aaq;have hu:=Ay9 (n:=m) (by omega);have hlen:=An9 (n:=m) (by omega);generalize Aeu (2^m-1)=q at *;have:∀ (r:List Int) (k:Nat) (out:List Int),q.drop k=r->out.length<=k->out++(r.filter fun y=>cloB l (sN y))=(q.filter fun y=>cloB l (sN y))->q68_.L1 l out q k (fun r=>r=(q.filter fun y=>cloB l (sN y),0)):=by
    intro r
    induction r with
    | nil=>
     intro k out hd hk he;have:=Aax hd;apply q68_.L1_step;rw [if_neg (by omega),← he];simp
    | cons y r ih=>
     intro k out hd hk he;have hlt:=Aay hd;have hy:=hu y (List.mem_of_getElem? (Aaj hd));apply q68_.L1_step;rw [if_pos (by omega)];obtain ⟨e,e1,e2⟩:=q45_.spec hl hn hy.lt;rw [← hy.eq] at e1;refine ⟨y,Aar hd,e,e1,?_⟩;by_cases hc:cloB l (sN y)=true
     ·rw [if_pos (e2.2 hc)];refine ⟨by omega,?_⟩;apply q68_.L2_step;rw [Aa3 (by omega)];refine ih (k+1) _ (Aa7 hd) (by rw [List.length_append,List.length_singleton];omega) ?_;rw [← he,List.filter_cons_of_pos (p:=fun y=>cloB l (sN y)) hc];simp
     ·rw [if_neg (fun h=>hc (e2.1 h))];apply q68_.L2_step;rw [Aa3 (by omega)];refine ih (k+1) _ (Aa7 hd) (by omega) ?_;rw [← he,List.filter_cons_of_neg (p:=fun y=>cloB l (sN y)) hc]
   exact this q 0 [] rfl (Nat.le_refl _) rfl
  ·rfl)
 rw [← h1];exact h2
theorem Bb5 {n:Nat} (hn:n<=16):Akr n=2^n-1:=by unfold Akr;rw [Nat.min_eq_left (by omega)]
def errA (n:Int) (l:List api_FD):Int:=if fdsE n l=0 then (if 10<n then 3 else 0) else fdsE n l
theorem q57_.spec {n:Int} {l:List api_FD} (hl:FdOK l):q57_.C n l (errA n l):=by
 obtain ⟨r,h1,h2⟩:=q57_.enter n l (fun r=>r=errA n l) (by
  refine ⟨_,q71_.spec hl,?_⟩;unfold errA
  split
  ·split<;>rfl
  ·rfl)
 rw [← h1];exact h2
theorem Alq {n:Int} {l:List api_FD} (h:errA n l=0):0<=n/\n<=10/\fdsE n l=0:=by
 unfold errA at h
 split at h
 ·rename_i h0;have:=Bkd h0
  split at h
  ·cases h
  ·exact ⟨by omega,by omega,h0⟩
 ·rename_i h0;exact absurd h h0
theorem Bat {n:Int} {l:List api_FD} (h:errA n l=0):Aht n l=(Aaq n.toNat l,0):=by
 obtain ⟨h1,h2,h3⟩:=Alq h;unfold Aht;rw [if_neg (by omega),if_neg (by omega),if_pos h3]
theorem q69_.spec {n:Nat} (hn:n<=16):q69_.C n ((2^n-1:Nat):Int):=by
 obtain ⟨r,h1,h2⟩:=q69_.enter n (fun r=>r=((2^n-1:Nat):Int)) ⟨by omega,Ar6 hn⟩;rw [← h1];exact h2
theorem Bdh {n:Nat} (hn:n<=16):q52_.C n ((2^n-1:Nat):Int):=by
 rw [← Bb5 hn];exact q52_.spec
def Awa (s m c:Int):Int:=if c=s then m else if sN s &&& sN c=sN s then bAnd .u32 m c else m
def Afy (s:Int) (m:Int):List Int->Int
 | []=>m
 | c::r=>Afy s (Awa s m c) r
def irrB (n:Nat) (cl:List Int) (s:Int):Bool:=if s=((2^n-1:Nat):Int) then false else if Afy s ((2^n-1:Nat):Int) cl=s then false else true
def irrL (n:Nat) (cl:List Int):List Int:=cl.filter (irrB n cl)
def irrF (n:Int) (l:List api_FD):List Int×Int:=if errA n l=0 then (irrL n.toNat (Aaq n.toNat l),0) else ([],errA n l)
theorem Apb {c s:Int} (hc:U32 c) (hs:U32 s):bAnd .u32 c s=s↔sN s &&& sN c=sN s:=by
 have e:bAnd .u32 c s=((sN c &&& sN s:Nat):Int):=by
  conv=>lhs;rw [hc.eq,hs.eq]
  exact Aem hc.top hs.top
 have es:=hs.eq;rw [e,Nat.and_comm];omega
theorem Aq0 {n:Nat} {l:List api_FD} (hn:n<=10):(Aaq n l).length<=1024:=by
 unfold Aaq;refine Nat.le_trans (List.length_filter_le _ _) ?_;rw [An9 (by omega)];exact Nat.pow_le_pow_right (n:=2) (by omega) hn
theorem Ald {n:Nat} {l:List api_FD} (hn:n<=10):AllU (Aaq n l):=fun y hy=>Ay9 (by omega) y (List.mem_filter.1 hy).1
namespace q33_
theorem inner {n:Nat} {cl:List Int} {e:Int} {out:List Int} {i:Nat} {s:Int} {φ:List Int×Int->Prop} (hn:n<=10) (hu:AllU cl) (hl:cl.length<=1024) (hs:U32 s) (ho:out.length<=1024) (hi:i<=1024)
  (h:L1 n (cl,e) (if irrB n cl s=true then out++[s] else out) ((i+1:Nat):Int) φ):∀ (r:List Int) (k:Nat) (m:Int),cl.drop k=r->Afy s m r=Afy s ((2^n-1:Nat):Int) cl->L2 n (cl,e) out s m i k φ:=by
 intro r
 induction r with
 | nil=>
  intro k m hd he;have:=Aax hd;have he:m=Afy s ((2^n-1:Nat):Int) cl:=he;have skip:irrB n cl s=false->L4 n (cl,e) out i φ:=fun hb=>by
   apply L4_step;rw [Aa3 (by omega)];rw [if_neg (by rw [hb];decide)] at h;exact h
  apply L2_step;rw [if_neg (by show ¬ ((k:Int)<(cl.length:Int));omega)];refine ⟨_,q69_.spec (by omega),?_⟩;by_cases h1:s=((2^n-1:Nat):Int)
  ·rw [if_pos h1];exact skip (by unfold irrB;rw [if_pos h1])
  ·rw [if_neg h1];by_cases h2:m=s
   ·rw [if_pos h2];exact skip (by unfold irrB;rw [if_neg h1,if_pos (by rw [← he];exact h2)])
   ·rw [if_neg h2];have hb:irrB n cl s=true:=by unfold irrB;rw [if_neg h1,if_neg (by rw [← he];exact h2)]
    refine ⟨by omega,?_⟩;apply L4_step;rw [Aa3 (by omega)];rw [if_pos hb] at h;exact h
 | cons c r ih=>
  intro k m hd he;have hlt:=Aay hd;have hc:=hu c (List.mem_of_getElem? (Aaj hd));have next:L3 n (cl,e) out s (Awa s m c) i k φ:=by
   apply L3_step;rw [Aa3 (by omega)];exact ih (k+1) _ (Aa7 hd) he
  apply L2_step;rw [if_pos (by show (k:Int)<(cl.length:Int);omega)];refine ⟨c,Aar hd,?_⟩;unfold Awa at next;by_cases h1:c=s
  ·rw [if_pos h1] at next ⊢;exact next
  ·rw [if_neg h1] at next ⊢;by_cases h2:sN s &&& sN c=sN s
   ·rw [if_pos h2] at next;rw [if_pos ((Apb hc hs).2 h2)];exact next
   ·rw [if_neg h2] at next;rw [if_neg (fun hh=>h2 ((Apb hc hs).1 hh))];exact next
theorem spec {n:Int} {l:List api_FD} (hl:FdOK l) (hn:l.length<1000000000):C n l (irrF n l):=by
 obtain ⟨r,h1,h2⟩:=enter n l (fun r=>r=irrF n l) (by
  refine ⟨_,q57_.spec hl,?_⟩;unfold irrF
  split
  ·rename_i h0;obtain ⟨g1,g2,g3⟩:=Alq h0;have hc:=q68_.spec (n:=n) hl hn;rw [Bat h0] at hc;refine ⟨_,hc,?_⟩;rw [if_pos rfl];obtain ⟨m,rfl⟩:∃ m:Nat,n=m:=⟨n.toNat,by omega⟩
   rw [Int.toNat_natCast];have hu:=Ald (n:=m) (l:=l) (by omega);have hlen:=Aq0 (n:=m) (l:=l) (by omega);generalize Aaq m l=cl at *;unfold irrL;have:∀ (r:List Int) (k:Nat) (out:List Int),cl.drop k=r->k<=cl.length->out.length<=k->out++r.filter (irrB m cl)=cl.filter (irrB m cl)->L1 m (cl,0) out k (fun r=>r=(cl.filter (irrB m cl),0)):=by
    intro r
    induction r with
    | nil=>
     intro k out hd hk ho he;have:=Aax hd;apply L1_step;rw [if_neg (by show ¬ ((k:Int)<(cl.length:Int));omega),← he];simp
    | cons s r ih=>
     intro k out hd hk ho he;have hlt:=Aay hd;have hs:=hu s (List.mem_of_getElem? (Aaj hd));apply L1_step;rw [if_pos (by show (k:Int)<(cl.length:Int);omega)];refine ⟨s,Aar hd,_,q69_.spec (by omega),?_⟩;refine inner (by omega) hu hlen hs (by omega) (by omega) ?_ cl 0 _ rfl rfl;refine ih (k+1) _ (Aa7 hd) (by omega) ?_ ?_
     ·split
      ·rw [List.length_append,List.length_singleton];omega
      ·omega
     ·rw [← he];by_cases hb:irrB m cl s=true
      ·rw [if_pos hb,List.filter_cons_of_pos hb];simp
      ·rw [if_neg hb,List.filter_cons_of_neg hb]
   exact this cl 0 [] rfl (Nat.zero_le _) (Nat.le_refl _) rfl
  ·rfl)
 rw [← h1];exact h2
end q33_
theorem Bfi {n:Int} {l:List api_FD}:(irrF n l).1.length<=1024:=by
 unfold irrF
 split
 ·rename_i h0;obtain ⟨g1,g2,g3⟩:=Alq h0;exact Nat.le_trans (List.length_filter_le _ _) (Aq0 (by omega))
 ·simp
def CloP (n:Nat) (l:List api_FD) (m:Nat):Prop:=m<2^n/\Ad3 l m
theorem Ale {n:Nat} {l:List api_FD} (hn:n<=12) {y:Int}:y∈Aaq n l↔∃ m:Nat,y=m/\CloP n l m:=by
 unfold Aaq CloP;rw [List.mem_filter,Akd hn];constructor
 ·rintro ⟨⟨m,rfl,hm⟩,h⟩;rw [Ab2] at h;exact ⟨m,rfl,hm,Amj.1 h⟩
 ·rintro ⟨m,rfl,hm,h⟩;exact ⟨⟨m,rfl,hm⟩,by rw [Ab2];exact Amj.2 h⟩
theorem Ahc {s:Int}:∀ {cl:List Int} {m:Int},AllU cl->U32 m->U32 (Afy s m cl)/\∀ i,(sN (Afy s m cl)).testBit i=true↔(sN m).testBit i=true/\∀ c∈cl,c≠s->subN (sN s) (sN c)->(sN c).testBit i=true
 | [],m,_,hm=>⟨hm,fun i=>by simp [Afy]⟩
 | c::r,m,hu,hm=>by
  have hc:=hu c (by simp);have hu':AllU r:=fun y hy=>hu y (by simp [hy]);have e:bAnd .u32 m c=((sN m &&& sN c:Nat):Int):=by
   conv=>lhs;rw [hm.eq,hc.eq]
   exact Aem hm.top hc.top
  simp only [Afy,Awa];by_cases h1:c=s
  ·rw [if_pos h1];obtain ⟨a,b⟩:=Ahc (s:=s) hu' hm;refine ⟨a,fun i=>?_⟩;rw [b];simp only [List.forall_mem_cons,h1];constructor
   ·rintro ⟨q1,q3⟩;exact ⟨q1,fun h=>absurd rfl h,q3⟩
   ·rintro ⟨q1,_,q3⟩;exact ⟨q1,q3⟩
  ·rw [if_neg h1];by_cases h2:sN s &&& sN c=sN s
   ·rw [if_pos h2];have hU:U32 (bAnd .u32 m c):=by
     rw [e];exact U32.of (Nat.lt_of_le_of_lt Nat.and_le_left hm.lt)
    obtain ⟨a,b⟩:=Ahc (s:=s) hu' hU;refine ⟨a,fun i=>?_⟩;rw [b,e,Ab2,Nat.testBit_and];simp only [List.forall_mem_cons,Bool.and_eq_true];constructor
    ·rintro ⟨⟨q1,q2⟩,q3⟩;exact ⟨q1,fun _ _=>q2,q3⟩
    ·rintro ⟨q1,q2,q3⟩;exact ⟨⟨q1,q2 h1 (Ado.1 h2)⟩,q3⟩
   ·rw [if_neg h2];obtain ⟨a,b⟩:=Ahc (s:=s) hu' hm;refine ⟨a,fun i=>?_⟩;rw [b];simp only [List.forall_mem_cons];constructor
    ·rintro ⟨q1,q3⟩;exact ⟨q1,fun _ h=>absurd (Ado.2 h) h2,q3⟩
    ·rintro ⟨q1,_,q3⟩;exact ⟨q1,q3⟩
def Awb (s m c:Int):Int:=if sN s &&& sN c=sN s then bAnd .u32 m c else m
def Ajd (s:Int) (m:Int):List Int->Int
 | []=>m
 | c::r=>Ajd s (Awb s m c) r
theorem Amt {s:Int}:∀ {cl:List Int} {m:Int},AllU cl->U32 m->U32 (Ajd s m cl)/\∀ i,(sN (Ajd s m cl)).testBit i=true↔(sN m).testBit i=true/\∀ c∈cl,subN (sN s) (sN c)->(sN c).testBit i=true
 | [],m,_,hm=>⟨hm,fun i=>by simp [Ajd]⟩
 | c::r,m,hu,hm=>by
  have hc:=hu c (by simp);have hu':AllU r:=fun y hy=>hu y (by simp [hy]);have e:bAnd .u32 m c=((sN m &&& sN c:Nat):Int):=by
   conv=>lhs;rw [hm.eq,hc.eq]
   exact Aem hm.top hc.top
  simp only [Ajd,Awb];by_cases h2:sN s &&& sN c=sN s
  ·rw [if_pos h2];have hU:U32 (bAnd .u32 m c):=by
    rw [e];exact U32.of (Nat.lt_of_le_of_lt Nat.and_le_left hm.lt)
   obtain ⟨a,b⟩:=Amt (s:=s) hu' hU;refine ⟨a,fun i=>?_⟩;rw [b,e,Ab2,Nat.testBit_and];simp only [List.forall_mem_cons,Bool.and_eq_true];constructor
   ·rintro ⟨⟨q1,q2⟩,q3⟩;exact ⟨q1,fun _=>q2,q3⟩
   ·rintro ⟨q1,q2,q3⟩;exact ⟨⟨q1,q2 (Ado.1 h2)⟩,q3⟩
  ·rw [if_neg h2];obtain ⟨a,b⟩:=Amt (s:=s) hu' hm;refine ⟨a,fun i=>?_⟩;rw [b];simp only [List.forall_mem_cons];constructor
   ·rintro ⟨q1,q3⟩;exact ⟨q1,fun h=>absurd (Ado.2 h) h2,q3⟩
   ·rintro ⟨q1,_,q3⟩;exact ⟨q1,q3⟩
theorem Agu {n i:Nat}:(2^n-1).testBit i=decide (i<n):=Nat.testBit_two_pow_sub_one n i
def IrrP (n:Nat) (l:List api_FD) (m:Nat):Prop:=CloP n l m/\∃ a,a<n/\m.testBit a=false/\∀ c,CloP n l c->subN m c->c≠m->c.testBit a=true
theorem Azx {n:Nat} {l:List api_FD} (hn:n<=10) {y:Int}:y∈irrL n (Aaq n l)↔∃ m:Nat,y=m/\IrrP n l m:=by
 unfold irrL;rw [List.mem_filter,Ale (by omega)];have hp:=Abu (n:=n) (by omega);have hu:=Ald (n:=n) (l:=l) hn;have hfu:U32 ((2^n-1:Nat):Int):=U32.of (by omega);constructor
 ·rintro ⟨⟨m,rfl,hm⟩,h⟩;refine ⟨m,rfl,hm,?_⟩;unfold irrB at h
  split at h
  ·cases h
  rename_i h1
  split at h
  ·cases h
  rename_i h2;obtain ⟨ha,hb⟩:=Ahc (s:=(m:Int)) hu hfu;have hne:sN (Afy (m:Int) ((2^n-1:Nat):Int) (Aaq n l))≠m:=fun he=>h2 (by rw [ha.eq,he]);have hsub:subN m (sN (Afy (m:Int) ((2^n-1:Nat):Int) (Aaq n l))):=fun i hi=>by
   rw [hb,Ab2];refine ⟨?_,fun c _ _ hs=>?_⟩
   ·rw [Agu,decide_eq_true_iff];exact Acm.1 hm.1 i hi
   ·rw [Ab2] at hs;exact hs i hi
  have hex:∃ i,(sN (Afy (m:Int) ((2^n-1:Nat):Int) (Aaq n l))).testBit i=true/\m.testBit i=false:=by
   false_or_by_contra
   rename_i hno;refine hne (Al4 (fun i hi=>?_) hsub);cases hmi:m.testBit i with
   | true=>rfl
   | false=>exact absurd ⟨i,hi,hmi⟩ hno
  obtain ⟨a,a1,a2⟩:=hex;rw [hb,Ab2,Agu,decide_eq_true_iff] at a1;refine ⟨a,a1.1,a2,fun c hc hs hne=>?_⟩;have:=a1.2 (c:Int) ((Ale (by omega)).2 ⟨c,rfl,hc⟩) (by omega) (by rw [Ab2,Ab2];exact hs);rw [Ab2] at this;exact this
 ·rintro ⟨m,rfl,hm,a,a1,a2,a3⟩;refine ⟨⟨m,rfl,hm⟩,?_⟩;have h1:¬ ((m:Int)=((2^n-1:Nat):Int)):=fun he=>by
   have:m=2^n-1:=by omega
   rw [this,Agu,decide_eq_false_iff_not] at a2;exact a2 a1
  obtain ⟨ha,hb⟩:=Ahc (s:=(m:Int)) hu hfu;have h2:¬ Afy (m:Int) ((2^n-1:Nat):Int) (Aaq n l)=(m:Int):=fun he=>by
   have:=(hb a).2 ⟨by rw [Ab2,Agu,decide_eq_true_iff];exact a1,fun c hc hne hs=>by
    obtain ⟨k,rfl,hk⟩:=(Ale (by omega)).1 hc;rw [Ab2,Ab2] at hs;rw [Ab2];exact a3 k hk hs (by omega)⟩
   rw [he,Ab2,a2] at this;cases this
  unfold irrB;rw [if_neg h1,if_neg h2]
theorem Bkf {n:Nat} {l:List api_FD} {s a:Nat} (ha:a<n) (hs:CloP n l s) (hsa:s.testBit a=false):∃ m,IrrP n l m/\subN s m/\m.testBit a=false:=by
 have:∀ d s,2^n-s<=d->CloP n l s->s.testBit a=false->∃ m,IrrP n l m/\subN s m/\m.testBit a=false:=by
  intro d
  induction d with
  | zero=>intro s hd hs;have:=hs.1;omega
  | succ d ih=>
   intro s hd hs hsa;by_cases hx:∃ c,CloP n l c/\subN s c/\c≠s/\c.testBit a=false
   ·obtain ⟨c,c1,c2,c3,c4⟩:=hx;have hlt:s<c:=by
     have hle:s<=c:=by
      have:s &&& c=s:=Ado.2 c2;rw [← this];exact Nat.and_le_right
     omega
    have:=hs.1;obtain ⟨m,m1,m2,m3⟩:=ih c (by omega) c1 c4;exact ⟨m,m1,Aet c2 m2,m3⟩
   ·refine ⟨s,⟨hs,a,ha,hsa,fun c hc hsc hne=>?_⟩,Al5 s,hsa⟩;cases hca:c.testBit a with
    | true=>rfl
    | false=>exact absurd ⟨c,hc,hsc,hne,hca⟩ hx
 exact this _ s (Nat.le_refl _) hs hsa
def FdIn (n:Nat) (l:List api_FD):Prop:=∀ d∈l,sN d.Lhs<2^n/\sN d.Rhs<2^n
theorem Azu {n:Int} {l:List api_FD} (h:fdsE n l=0):FdIn n.toNat l:=by
 unfold fdsE at h
 split at h
 ·cases h
 ·split at h
  ·cases h
  ·split at h
   ·rename_i ha;intro d hd;have:=List.all_eq_true.1 ha d hd;unfold inU at this;simp only [Bool.and_eq_true,decide_eq_true_eq] at this;exact this
   ·cases h
theorem FdIn.r32 {n:Nat} {l:List api_FD} (h:FdIn n l) (hn:n<=16):∀ d∈l,sN d.Rhs<2^32:=fun d hd=>by
 have:=(h d hd).2;have:=Abu hn;omega
theorem Awy {n:Nat} {l:List api_FD} (h:FdIn n l) (hn:n<=16) {s:Nat} (hs:s<2^n):CloP n l (cloN l s):=
 ⟨Ath (fun d hd=>(h d hd).2) hs,Aqv (h.r32 hn) (by have:=Abu hn;omega)⟩
theorem Ahp {a i:Nat}:(2^a).testBit i=decide (a=i):=Nat.testBit_two_pow
def Arh (t:api_Table) (l:List api_FD) (n:Nat):Prop:=∀ s a,s<2^n->a<n->(SatP t s (2^a)↔(cloN l s).testBit a=true)
theorem Arb {t:api_Table} (ht:TV t) {s r n:Nat} (hn:n<=16) (hs:s<2^n) (hr:r<2^n):SatP t s r↔∀ a,r.testBit a=true->SatP t s (2^a):=by
 have hp:=Abu hn;have ha:∀ a,r.testBit a=true->2^a<2^32:=fun a h=>Nat.pow_lt_pow_right (by omega) (by have:=Acm.1 hr a h;omega);rw [Ajl ht (by omega) (by omega)];constructor
 ·intro h a hb;rw [Ajl ht (by omega) (ha a hb)];intro i k hi hk e b hb2;rw [Ahp,decide_eq_true_iff] at hb2;subst hb2;exact h i k hi hk e a hb
 ·intro h i k hi hk e a hb;have:=(Ajl ht (by omega) (ha a hb)).1 (h a hb) i k hi hk e a (by rw [Ahp];simp);exact this
def agrN (t:api_Table) (n i k:Nat):Nat:=Aex (fun a=>decide (EqA t i k a)) n
theorem Ap9 {t:api_Table} {n i k:Nat}:agrN t n i k<2^n:=Akz n
theorem Amf {t:api_Table} {n i k a:Nat}:(agrN t n i k).testBit a=true↔a<n/\EqA t i k a:=by
 unfold agrN;rw [Amv,Bool.and_eq_true,decide_eq_true_iff,decide_eq_true_iff]
def armV (n k m:Nat):List api_Value:=(List.range n).map fun i=>{ Kind:=1,Num:=if m.testBit i=true then 0 else (k:Int),Str:=⟨#[]⟩ }
def Ajp (n k m:Nat):api_Row:={ ID:=((k+1:Nat):Int),Values:=armV n k m }
def Abj (n:Nat):Nat->List Nat->List api_Row
 | _,[]=>[]
 | k,m::r=>Ajp n k m::Abj n (k+1) r
theorem Alc {n:Nat}:∀ {ms:List Nat} {k j:Nat},(Abj n k ms)[j]? = (ms[j]?).map (Ajp n (k+j))
 | [],k,j=>by simp [Abj]
 | m::r,k,0=>by simp [Abj]
 | m::r,k,j+1=>by
  simp only [Abj,List.getElem?_cons_succ];rw [Alc,show k+1+j=k+(j+1) by omega]
theorem Ag4 {n:Nat}:∀ {ms:List Nat} {k:Nat},(Abj n k ms).length=ms.length
 | [],_=>rfl
 | m::r,k=>by simp only [Abj,List.length_cons,Ag4]
def Aca (n:Nat) (l:List api_FD):List Nat:=(2^n-1)::(irrL n (Aaq n l)).map sN
theorem Aud {n:Nat} {l:List api_FD} (hn:n<=10) {m:Nat}:m∈(irrL n (Aaq n l)).map sN↔IrrP n l m:=by
 rw [List.mem_map];constructor
 ·rintro ⟨y,hy,rfl⟩;obtain ⟨m,rfl,hm⟩:=(Azx hn).1 hy;rw [Ab2];exact hm
 ·intro hm;exact ⟨m,(Azx hn).2 ⟨m,rfl,hm⟩,Ab2⟩
theorem Bez {n k m a:Nat} (ha:a<n):(armV n k m)[a]? = some { Kind:=1,Num:=if m.testBit a=true then 0 else (k:Int),Str:=⟨#[]⟩ }:=by
 unfold armV;rw [List.getElem?_map,List.getElem?_range ha];rfl
theorem Apc {n:Nat} {l:List api_FD} {t:api_Table} (htr:t.Rows=Abj n 0 (Aca n l)) {i k a:Nat} (ha:a<n) {p q:Nat} (hp:(Aca n l)[i]? = some p) (hq:(Aca n l)[k]? = some q) (hki:k<i):EqA t i k a↔p.testBit a=true/\q.testBit a=true:=by
 unfold EqA;rw [htr,Alc,Alc,hp,hq];simp only [Option.map_some,zJ,Ajp,Bez ha,Nat.zero_add,api_Value.mk.injEq,true_and,and_true];have h0:k=0->q.testBit a=true:=fun h=>by
  subst h;unfold Aca at hq;rw [List.getElem?_cons_zero,zJ] at hq;rw [← hq,Agu,decide_eq_true_iff];exact ha
 by_cases h1:p.testBit a=true
 ·by_cases h2:q.testBit a=true
  ·simp [h1,h2]
  ·have:k≠0:=fun h=>h2 (h0 h);rw [if_pos h1,if_neg h2];constructor
   ·intro h;omega
   ·rintro ⟨_,h⟩;exact absurd h h2
 ·rw [if_neg h1];constructor
  ·intro h
   split at h
   ·omega
   ·omega
  ·rintro ⟨h,_⟩;exact absurd h h1
theorem Bgu {n:Nat} {l:List api_FD} {t:api_Table} (hn:n<=10) (hf:FdIn n l) (ht:TV t) (htr:t.Rows=Abj n 0 (Aca n l)) {x y:Nat} (hx:x<2^n) (hy:y<2^n):SatP t x y↔subN y (cloN l x):=by
 have hp:=Abu (n:=n) (by omega);rw [Ajl ht (by omega) (by omega)];have hlen:t.Rows.length=(Aca n l).length:=by rw [htr,Ag4]
 have hc:=Awy hf (by omega) hx;constructor
 ·intro h a ha
  false_or_by_contra
  rename_i hna;have hna:(cloN l x).testBit a=false:=by simpa using hna
  have han:=Acm.1 hy a ha;obtain ⟨m,m1,m2,m3⟩:=Bkf han hc hna;obtain ⟨j,hj⟩:=List.getElem?_of_mem ((Aud hn).2 m1);have hj1:(Aca n l)[j+1]? = some m:=by unfold Aca;rw [List.getElem?_cons_succ];exact hj
  have hj0:(Aca n l)[0]? = some (2^n-1):=rfl;have hlt:j+1<(Aca n l).length:=(List.getElem?_eq_some_iff.1 hj1).1;have:=h (j+1) 0 (by omega) (by omega) (fun b hb=>by
   have hbn:=Acm.1 hx b hb;rw [Apc htr hbn hj1 hj0 (by omega)];exact ⟨m2 b (Apg b hb),by rw [Agu,decide_eq_true_iff];exact hbn⟩) a ha
  rw [Apc htr han hj1 hj0 (by omega)] at this;rw [m3] at this;cases this.1
 ·intro h i k hi hk e a ha;have han:=Acm.1 hy a ha;have hi':i<(Aca n l).length:=by omega
  have hk':k<(Aca n l).length:=by omega
  have gi:=List.getElem?_eq_getElem hi';have gk:=List.getElem?_eq_getElem hk';have sub:∀ j (hj:j<(Aca n l).length),(∀ b,x.testBit b=true->((Aca n l)[j]'hj).testBit b=true)->((Aca n l)[j]'hj).testBit a=true:=fun j hj hb=>by
   have gm:=List.getElem_mem hj;unfold Aca at gm;rcases List.mem_cons.1 gm with hm | hm
   ·have:(Aca n l)[j]=2^n-1:=hm;rw [this,Agu,decide_eq_true_iff];exact han
   ·have hm:(Aca n l)[j]∈(irrL n (Aaq n l)).map sN:=hm;have:=(Aud hn).1 hm;exact Ahs hb this.1.2 a (h a ha)
  rw [Apc htr han gi gk hk];have e':∀ b,x.testBit b=true->_:=fun b hb=>(Apc htr (Acm.1 hx b hb) gi gk hk).1 (e b hb);exact ⟨sub i hi' fun b hb=>(e' b hb).1,sub k hk' fun b hb=>(e' b hb).2⟩
theorem Bco {n:Nat} {l:List api_FD} {t:api_Table} (hn:n<=10) (hf:FdIn n l) (ht:TV t) (htr:t.Rows=Abj n 0 (Aca n l)):Arh t l n:=fun s a hs ha=>by
 rw [Bgu hn hf ht htr hs (Nat.pow_lt_pow_right (by omega) ha)];constructor
 ·intro h;exact h a (by rw [Ahp];simp)
 ·intro h b hb;rw [Ahp,decide_eq_true_iff] at hb;subst hb;exact h
def errT (t:api_Table) (l:List api_FD):Int:=if Ahl t=0 then (if 200<(t.Rows.length:Int) then 3 else errA (t.Attrs.length:Int) l) else Ahl t
theorem q36_.spec {t:api_Table} {l:List api_FD} (hl:FdOK l):q36_.C t l (errT t l):=by
 obtain ⟨r,h1,h2⟩:=q36_.enter t l (fun r=>r=errT t l) (by
  refine ⟨_,q86_.spec,?_⟩;unfold errT
  split
  ·split
   ·rfl
   ·exact ⟨_,q57_.spec hl,rfl⟩
  ·rfl)
 rw [← h1];exact h2
theorem Ahw {t:api_Table} {l:List api_FD} (h:errT t l=0):TV t/\t.Rows.length<=200/\t.Attrs.length<=10/\FdIn t.Attrs.length l:=by
 unfold errT at h
 split at h
 ·rename_i h0
  split at h
  ·cases h
  ·obtain ⟨g1,g2,g3⟩:=Alq h;have:=Azu g3;rw [Int.toNat_natCast] at this;exact ⟨Ajh.1 h0,by omega,by omega,this⟩
 ·rename_i h0;exact absurd h h0
open Classical in
noncomputable def satB (t:api_Table) (l r:Nat):Bool:=decide (SatP t l r)
theorem An6 {t:api_Table} {l r:Nat}:satB t l r=true↔SatP t l r:=by unfold satB;exact @decide_eq_true_iff _ (Classical.propDecidable _)
def impB (l:List api_FD) (a b:Int):Bool:=decide (sN b &&& cloN l (sN a)=sN b)
theorem Axg {l:List api_FD} {a b:Int}:impB l a b=true↔subN (sN b) (cloN l (sN a)):=by
 unfold impB;rw [decide_eq_true_iff,Ado];exact Iff.rfl
theorem Bjy {a:Nat} (ha:a<32):shlw .u32 1 (a:Int)=((2^a:Nat):Int):=Agl (k:=.u32) (by simpa only [top] using ha)
open Classical in
noncomputable def detN (t:api_Table) (n x:Nat):Nat:=Aex (fun a=>satB t x (2^a)) n
theorem Ahu {t:api_Table} {n x a:Nat}:(detN t n x).testBit a=true↔a<n/\SatP t x (2^a):=by
 unfold detN;rw [Amv,Bool.and_eq_true,decide_eq_true_iff,An6]
theorem Atl {t:api_Table} {n x:Nat}:detN t n x<2^n:=Akz n
noncomputable def Acu (t:api_Table) (l:List api_FD) (n x:Nat):Nat:=Acv (detN t n x) (cloN l x)
theorem Avd {t:api_Table} {l:List api_FD} {n x a:Nat}:(Acu t l n x).testBit a=true↔(a<n/\SatP t x (2^a))/\(cloN l x).testBit a=false:=by
 unfold Acu;rw [Afk,Bool.and_eq_true,Ahu,Bool.not_eq_true']
theorem Axu {t:api_Table} {l:List api_FD} {n x:Nat}:Acu t l n x<2^n:=Nat.lt_of_le_of_lt Amu Atl
theorem Avt {m:Nat}:m=0↔∀ a,m.testBit a=false:=by
 constructor
 ·rintro rfl a;exact Nat.zero_testBit a
 ·intro h;exact Nat.eq_of_testBit_eq fun i=>by rw [h,Nat.zero_testBit]
noncomputable def extL (t:api_Table) (l:List api_FD) (n:Nat):List Int->api_FD×Int
 | []=>({ Lhs:=0,Rhs:=0 },4)
 | y::r=>if Acu t l n (sN y)=0 then extL t l n r else ({ Lhs:=y,Rhs:=((2^Abm (Acu t l n (sN y)) 32 0:Nat):Int) },0)
noncomputable def Alr (t:api_Table) (l:List api_FD):api_FD×Int:=if errT t l=0 then extL t l t.Attrs.length (Aeu (2^t.Attrs.length-1)) else ({ Lhs:=0,Rhs:=0 },errT t l)
noncomputable def brkL (t:api_Table):List api_FD->api_FD×Int
 | []=>({ Lhs:=0,Rhs:=0 },4)
 | d::r=>if satB t (sN d.Lhs) (sN d.Rhs)=true then brkL t r else (d,0)
noncomputable def brkF (t:api_Table) (l:List api_FD):api_FD×Int:=if errT t l=0 then brkL t l else ({ Lhs:=0,Rhs:=0 },errT t l)
theorem Aur {t:api_Table} {l:List api_FD} {n:Nat}:∀ {q:List Int},(extL t l n q).2=4↔∀ y∈q,Acu t l n (sN y)=0
 | []=>by simp [extL]
 | y::r=>by
  rw [extL,List.forall_mem_cons];by_cases h:Acu t l n (sN y)=0
  ·rw [if_pos h,Aur];simp [h]
  ·rw [if_neg h];simp [h]
theorem Auf {t:api_Table}:∀ {q:List api_FD},(brkL t q).2=4↔∀ d∈q,SatP t (sN d.Lhs) (sN d.Rhs)
 | []=>by simp [brkL]
 | d::r=>by
  rw [brkL,List.forall_mem_cons];by_cases h:satB t (sN d.Lhs) (sN d.Rhs)=true
  ·rw [if_pos h,Auf];simp [An6.1 h]
  ·rw [if_neg h];constructor
   ·intro hh;cases hh
   ·rintro ⟨h1,_⟩;exact absurd (An6.2 h1) h
theorem Bd9 {t:api_Table} (ht:TV t) {l:List api_FD} {n:Nat} (hn:n<=10) (hf:FdIn n l):Arh t l n↔(∀ x,x<2^n->Acu t l n x=0)/\∀ d∈l,SatP t (sN d.Lhs) (sN d.Rhs):=by
 have hp:=Abu (n:=n) (by omega);constructor
 ·intro h;refine ⟨fun x hx=>Avt.2 fun a=>?_,fun d hd=>?_⟩
  ·cases hb:(Acu t l n x).testBit a with
   | false=>rfl
   | true=>
    obtain ⟨⟨h1,h2⟩,h3⟩:=Avd.1 hb;rw [(h x a hx h1).1 h2] at h3;cases h3
  ·obtain ⟨d1,d2⟩:=hf d hd;rw [Arb ht (by omega) d1 d2];intro a ha;have hc:=Awy hf (by omega) d1;exact (h _ a d1 (Acm.1 d2 a ha)).2 (hc.2 d hd Apg a ha)
 ·rintro ⟨h1,h2⟩ s a hs ha;constructor
  ·intro hsat;cases hb:(cloN l s).testBit a with
   | true=>rfl
   | false=>
    have:=Avt.1 (h1 s hs) a;rw [Avd.2 ⟨⟨ha,hsat⟩,hb⟩] at this;cases this
  ·intro hb;have hsub:subN s (detN t n s):=fun b hb=>by
    rw [Ahu];refine ⟨Acm.1 hs b hb,?_⟩;have hbn:=Acm.1 hs b hb;rw [Ajl ht (by omega) (Nat.pow_lt_pow_right (by omega) (by omega))];intro i k hi hk e c hc;rw [Ahp,decide_eq_true_iff] at hc;subst hc;exact e b hb
   have hclo:Ad3 l (detN t n s):=fun d hd hle a ha=>by
    obtain ⟨d1,d2⟩:=hf d hd;have s1:SatP t s (sN d.Lhs):=(Arb ht (by omega) hs d1).2 fun b hb=>(Ahu.1 (hle b hb)).2;have s2:=h2 d hd;have s3:SatP t s (sN d.Rhs):=fun i k hi hk e=>s2 i k hi hk (s1 i k hi hk e);exact Ahu.2 ⟨Acm.1 d2 a ha,(Arb ht (by omega) hs d2).1 s3 a ha⟩
   exact (Ahu.1 (Ahs hsub hclo a hb)).2
open Classical in
noncomputable def exB (t:api_Table) (l:List api_FD) (n:Nat):Bool:=decide (Arh t l n)
theorem Azt {t:api_Table} {l:List api_FD} {n:Nat}:exB t l n=true↔Arh t l n:=by unfold exB;exact @decide_eq_true_iff _ (Classical.propDecidable _)
noncomputable def Aob (t:api_Table) (l:List api_FD):Bool×Int:=if errT t l=0 then (exB t l t.Attrs.length,0) else (false,errT t l)
theorem Bd7 {t:api_Table} {l:List api_FD} (h:errT t l=0):exB t l t.Attrs.length=true↔(Alr t l).2=4/\(brkF t l).2=4:=by
 obtain ⟨g1,g2,g3,g4⟩:=Ahw h;unfold Alr brkF;rw [if_pos h,if_pos h,Azt,Bd9 g1 g3 g4,Aur,Auf];refine and_congr_left fun _=>?_;constructor
 ·intro hx y hy;obtain ⟨m,rfl,hm⟩:=(Akd (by omega)).1 hy;rw [Ab2];exact hx m hm
 ·intro hy x hx;have:=hy (x:Int) ((Akd (by omega)).2 ⟨x,rfl,hx⟩);rw [Ab2] at this;exact this
theorem q59_.spec {l:List api_FD} (hl:FdOK l) (hn:l.length<1000000000) {d:api_FD} (ha:U32 d.Lhs) (hb:U32 d.Rhs):q59_.C l d (impB l d.Lhs d.Rhs):=by
 have hc:=q75_.spec hl hn ha.lt;rw [← ha.eq] at hc;have hcl:cloN l (sN d.Lhs)<2^32:=Ath (fun d hd=>(hl d hd).2.lt) ha.lt;obtain ⟨r,h1,h2⟩:=q59_.enter l d (fun r=>r=impB l d.Lhs d.Rhs) ⟨_,hc,by
  refine Bool.eq_iff_iff.2 ?_;rw [beq_iff_eq,Ae2 hb hcl];unfold impB;rw [decide_eq_true_iff]⟩
 rw [← h1];exact h2
theorem eqFD {a b:api_FD}:(and (a.Lhs == b.Lhs) (and (a.Rhs == b.Rhs) true))=decide (a=b):=by
 obtain ⟨a1,a2⟩:=a;obtain ⟨b1,b2⟩:=b;simp only [api_FD.mk.injEq,Bool.and_true];rw [Bool.decide_and];rfl
theorem q28_.spec {l:List api_FD} {x:api_FD} (hn:l.length<1000000000):q28_.C l x (ixI (fun a=>decide (x=a)) l):=by
 obtain ⟨r,h1,h2⟩:=q28_.enter l x (fun r=>r=ixI (fun a=>decide (x=a)) l) (by
  refine Aj8 (l:=l) (p:=fun a=>decide (x=a)) (L:=fun i=>q28_.L1 l x i _) (φ:=fun r=>r=ixI (fun a=>decide (x=a)) l) ?_ ?_ rfl
  ·intro h;apply q28_.L1_step;rw [if_neg (by omega)];exact h
  ·intro k a ha hk h;apply q28_.L1_step;rw [if_pos (by omega)];refine ⟨a,Ad4 ha,?_⟩;rw [Aa3 (by omega),eqFD];exact h)
 rw [← h1];exact h2
theorem Bgr {α:Type} [DecidableEq α] {l:List α} {x:α}:(l.any fun a=>decide (x=a))=decide (x∈l):=by
 rw [Bool.eq_iff_iff,List.any_eq_true,decide_eq_true_eq];constructor
 ·rintro ⟨a,ha,h⟩;rw [of_decide_eq_true h];exact ha
 ·intro h;exact ⟨x,h,decide_eq_true rfl⟩
theorem q25_.spec {l:List api_FD} {x:api_FD} (hn:l.length<1000000000):q25_.C l x (decide (x∈l)):=by
 obtain ⟨r,h1,h2⟩:=q25_.enter l x (fun r=>r=decide (x∈l)) ⟨_,q28_.spec hn,by rw [Atu,Bgr]⟩;rw [← h1];exact h2
theorem Bm7 {a:Nat} (h:a<2^32):a<2^top .u32:=by simpa [top] using h
structure Grows (m:Nat×Nat) (I:List Nat->Prop):Prop where
 lt:∀ R,I R->∀ r∈R,r<2^32
 len:∀ R,I R->R.length<=64
 add:∀ R r s,I R->r∈R->s∈R->Ark m.1 r s->mixR m r s ∉ R->I (R++[mixR m r s])
section
variable {fds mvds:List (Nat×Nat)} {bs:List Nat} {rest live:Nat}
end
def Aav (l m:List api_FD):Prop:=∀ s,Ad3 l s↔Ad3 m s
structure FdN (n:Nat) (l:List api_FD):Prop where
 ok:FdOK l
 fin:FdIn n l
theorem Ae6 {α:Type} {l:List α} {k:Nat} {a x:α} (h:l[k]? = some a):x∈l.take (k+1)↔x∈l.take k∨x=a:=by
 rw [List.take_add_one,h,List.mem_append];simp
theorem Av2 {l m:List api_FD} (h:∀ x,x∈m↔x∈l):Aav l m:=fun s=>by
 unfold Ad3;exact forall_congr' fun x=>by rw [h x]
theorem Aav.trans {l m k:List api_FD} (h:Aav l m) (h':Aav m k):Aav l k:=fun s=>(h s).trans (h' s)
theorem As6 {l:List api_FD} {x:api_FD} {s:Nat}:Ad3 (l++[x]) s↔Ad3 l s/\(subN (sN x.Lhs) s->subN (sN x.Rhs) s):=by
 unfold Ad3;constructor
 ·intro h;exact ⟨fun d hd=>h d (List.mem_append_left _ hd),h x (by simp)⟩
 ·rintro ⟨h1,h2⟩ d hd;rcases List.mem_append.1 hd with hd | hd
  ·exact h1 d hd
  ·rw [List.mem_singleton.1 hd];exact h2
theorem Bk0 {a s:Nat}:subN (2^a) s↔s.testBit a=true:=by
 unfold subN;constructor
 ·intro h;exact h a (by rw [Ba2];simp)
 ·intro h i hi;rw [Ba2,decide_eq_true_eq] at hi;rw [← hi];exact h
theorem Bh6 {l:List api_FD} {k:Nat} {d d':api_FD} (hk:l[k]? = some d) (hr:d'.Rhs=d.Rhs) (hsub:subN (sN d'.Lhs) (sN d.Lhs)) (himp:subN (sN d.Rhs) (cloN l (sN d'.Lhs))):Aav l (l.set k d'):=fun s=>by
 have hlt:=(List.getElem?_eq_some_iff.1 hk).1;constructor
 ·intro h x hx;rcases List.mem_or_eq_of_mem_set hx with hx | rfl
  ·exact h x hx
  ·intro hs;rw [hr];exact Aet himp (Ahs hs h)
 ·intro h x hx;obtain ⟨j,hj⟩:=List.getElem?_of_mem hx;by_cases hjk:j=k
  ·subst hjk;rw [hk] at hj;cases hj;intro hs;have:=h d' (List.mem_of_getElem? (i:=j) (by rw [List.getElem?_set_self hlt])) (Aet hsub hs)
   rwa [hr] at this
  ·exact h x (List.mem_of_getElem? (i:=j) (by rw [List.getElem?_set_ne (Ne.symm hjk)];exact hj))
theorem Apm {l:List api_FD} {k:Nat} {d:api_FD} (hk:l[k]? = some d) {x:api_FD}:x∈l↔x∈l.take k++l.drop (k+1)∨x=d:=by
 have hlt:=(List.getElem?_eq_some_iff.1 hk).1;have e:l=l.take k++d::l.drop (k+1):=by
  rw [List.getElem?_eq_getElem hlt,zJ] at hk;rw [← hk,List.getElem_cons_drop,List.take_append_drop]
 conv=>lhs;rw [e]
 simp only [List.mem_append,List.mem_cons];constructor
 ·rintro (h | h | h)
  ·exact .inl (.inl h)
  ·exact .inr h
  ·exact .inl (.inr h)
 ·rintro ((h | h) | h)
  ·exact .inl h
  ·exact .inr (.inr h)
  ·exact .inr (.inl h)
theorem Bh5 {l:List api_FD} {k:Nat} {d:api_FD} (hk:l[k]? = some d) (himp:subN (sN d.Rhs) (cloN (l.take k++l.drop (k+1)) (sN d.Lhs))):Aav l (l.take k++l.drop (k+1)):=fun s=>by
 constructor
 ·intro h x hx;exact h x ((Apm hk).2 (.inl hx))
 ·intro h x hx;rcases (Apm hk).1 hx with hx | rfl
  ·exact h x hx
  ·intro hs;exact Aet himp (Ahs hs h)
theorem q91_.spec {l:List api_FD} (hl:l.length<=100000):∃ r,q91_.C l r/\(∀ x,x∈r↔x∈l)/\r.length<=l.length:=by
 obtain ⟨r,h1,h2⟩:=q91_.enter l (fun r=>(∀ x,x∈r↔x∈l)/\r.length<=l.length) (by
  have go:∀ (t:List api_FD) (i:Nat) (out:List api_FD),l.drop i=t->i<=l.length->out.length<=i->(∀ x,x∈out↔x∈l.take i)->q91_.L1 l out (i:Int) (fun r=>(∀ x,x∈r↔x∈l)/\r.length<=l.length):=by
   intro t
   induction t with
   | nil=>
    intro i out hi hil ho hm;have hge:=Aax hi;apply q91_.L1_step;rw [if_neg (by omega)];exact ⟨fun x=>by rw [hm x,List.take_of_length_le hge],by omega⟩
   | cons a t ih=>
    intro i out hi hil ho hm;have hlt:=Aay hi;have ha:=Aaj hi;apply q91_.L1_step;rw [if_pos (by omega)];refine ⟨a,Aar hi,_,q25_.spec (by omega),?_⟩;by_cases h:a∈out
    ·rw [if_pos (decide_eq_true h)];apply q91_.L2_step;rw [Aa3 (by omega)];refine ih (i+1) out (Aa7 hi) (by omega) (by omega) fun x=>?_;rw [Ae6 ha,hm x];constructor
     ·exact .inl
     ·rintro (hx | rfl)
      ·exact hx
      ·exact (hm _).1 h
    ·rw [if_neg (by simpa using h)];refine ⟨by omega,?_⟩;apply q91_.L2_step;rw [Aa3 (by omega)];refine ih (i+1) _ (Aa7 hi) (by omega) (by rw [List.length_append,List.length_singleton];omega) fun x=>?_;rw [Ae6 ha,List.mem_append,hm x,List.mem_singleton]
  exact go l 0 [] rfl (Nat.zero_le _) (Nat.le_refl 0) fun x=>by simp)
 exact ⟨r,h2,h1.1,h1.2⟩
theorem FdN.mem {n:Nat} {l m:List api_FD} (h:FdN n l) (hm:∀ x,x∈m->x∈l):FdN n m:=⟨fun d hd=>h.ok d (hm d hd),fun d hd=>h.fin d (hm d hd)⟩
theorem FdN.snoc {n:Nat} {l:List api_FD} {x:api_FD} (h:FdN n l) (h1:U32 x.Lhs/\U32 x.Rhs) (h2:sN x.Lhs<2^n/\sN x.Rhs<2^n):FdN n (l++[x]):=by
 constructor
 ·intro d hd;rcases List.mem_append.1 hd with hd | hd
  ·exact h.ok d hd
  ·rw [List.mem_singleton.1 hd];exact h1
 ·intro d hd;rcases List.mem_append.1 hd with hd | hd
  ·exact h.fin d hd
  ·rw [List.mem_singleton.1 hd];exact h2
theorem Bh2 {m n:Nat} (hn:n<=16) (h:m<2^n):(Aat m).length<=n:=by
 have hp:=Abu hn;refine Axw ((Ag9 (n:=m)).imp fun h=>by omega) fun x hx=>Acm.1 h x ((Abq (by omega)).1 hx)
theorem q87_.spec {n:Nat} {l:List api_FD} (hn:n<=16) (h:FdN n l) (hlen:l.length<=64):∃ r,q87_.C l r/\FdN n r/\Aav l r/\r.length<=n*l.length:=by
 have hp:=Abu hn;obtain ⟨r,h1,h2⟩:=q87_.enter l (fun r=>FdN n r/\Aav l r/\r.length<=n*l.length) (by
  have go:∀ (t:List api_FD) (i:Nat) (out:List api_FD),l.drop i=t->i<=l.length->out.length<=n*i->FdN n out->(∀ s,Ad3 out s↔Ad3 (l.take i) s)->q87_.L1 l out (i:Int) (fun r=>FdN n r/\Aav l r/\r.length<=n*l.length):=by
   intro t
   induction t with
   | nil=>
    intro i out hi hil ho hf hc;have hge:=Aax hi;have hle:n*i<=n*l.length:=Nat.mul_le_mul_left _ hil;have hb:n*l.length<=16*64:=Nat.mul_le_mul hn hlen;apply q87_.L1_step;rw [if_neg (by omega)];obtain ⟨r,r1,r2,r3⟩:=q91_.spec (l:=out) (by omega);refine ⟨r,r1,hf.mem fun x hx=>(r2 x).1 hx,fun s=>?_,by omega⟩;rw [← Av2 r2 s,hc s,List.take_of_length_le hge]
   | cons d t ih=>
    intro i out hi hil ho hf hc;have hlt:=Aay hi;have hd:=Aaj hi;have hdm:=List.mem_of_getElem? hd;obtain ⟨u1,u2⟩:=h.ok d hdm;obtain ⟨b1,b2⟩:=h.fin d hdm;have hle:n*i<=16*64:=Nat.mul_le_mul hn (by omega);apply q87_.L1_step;rw [if_pos (by omega)];have e:Aaa .u32 d.Rhs d.Lhs=((Acv (sN d.Rhs) (sN d.Lhs):Nat):Int):=by
     conv=>lhs;rw [u1.eq,u2.eq]
     exact Aic u2.top u1.top
    have hnd:Acv (sN d.Rhs) (sN d.Lhs)<2^n:=Nat.lt_of_le_of_lt Amu b2;refine ⟨d,Aar hi,_,by rw [e];exact q58_.spec (by omega),?_⟩;have hbl:=Bh2 hn hnd;have hbm:∀ a,a∈Aat (Acv (sN d.Rhs) (sN d.Lhs))↔(Acv (sN d.Rhs) (sN d.Lhs)).testBit a=true:=fun a=>Abq (by omega);generalize hB:Aat (Acv (sN d.Rhs) (sN d.Lhs))=B at hbl hbm ⊢;have inner:∀ (q:List Nat) (k:Nat) (out:List api_FD),B.drop k=q->k<=B.length->out.length<=n*i+k->FdN n out->(∀ s,Ad3 out s↔Ad3 (l.take i) s/\∀ a∈B.take k,subN (sN d.Lhs) s->s.testBit a=true) ->
      q87_.L2 l out d (i:Int) (B.map fun (i:Nat)=>(i:Int)) (k:Int) (fun r=>FdN n r/\Aav l r/\r.length<=n*l.length):=by
     intro q
     induction q with
     | nil=>
      intro k out hk hkl ho hf hc;have hge:=Aax hk;apply q87_.L2_step;rw [if_neg (by rw [List.length_map];omega),Aa3 (by omega)];refine ih (i+1) out (Aa7 hi) (by omega) (by rw [Nat.mul_add];omega) hf fun s=>?_;rw [hc s,List.take_of_length_le hge];have e:l.take (i+1)=l.take i++[d]:=by rw [List.take_add_one,hd];rfl
      rw [e,As6];refine and_congr_right fun _=>?_;constructor
      ·intro hh hs j hj;by_cases hl:(sN d.Lhs).testBit j=true
       ·exact hs j hl
       ·exact hh j ((hbm j).2 (by rw [Afk,hj];simpa using hl)) hs
      ·intro hh a ha hs;have:=(hbm a).1 ha;rw [Afk,Bool.and_eq_true] at this;exact hh hs a this.1
     | cons a q ihq=>
      intro k out hk hkl ho hf hc;have hklt:=Aay hk;have ha:=Aaj hk;have ham:=(hbm a).1 (List.mem_of_getElem? ha);have han:a<n:=Acm.1 hnd a ham;have e2:shlw .u32 1 (a:Int)=((2^a:Nat):Int):=Agl (k:=.u32) (by simp only [top];omega);have h2a:2^a<2^n:=Nat.pow_lt_pow_right (by omega) han;apply q87_.L2_step;rw [if_pos (by rw [List.length_map];omega)];refine ⟨(a:Int),by rw [Ab4,List.getElem?_map,ha];rfl,by omega,by omega,?_⟩;rw [e2,Aa3 (by omega)];refine ihq (k+1) _ (Aa7 hk) (by omega) (by rw [List.length_append,List.length_singleton];omega) (hf.snoc ⟨u1,U32.of (by omega)⟩ ⟨b1,by rw [Ab2];exact h2a⟩) fun s=>?_;rw [As6,hc s,and_assoc];refine and_congr_right fun _=>?_;rw [Ab2,Bk0];constructor
      ·rintro ⟨g1,g2⟩ x hx;rcases (Ae6 ha).1 hx with hx | rfl
       ·exact g1 x hx
       ·exact g2
      ·intro g;exact ⟨fun x hx=>g x ((Ae6 ha).2 (.inl hx)),g a ((Ae6 ha).2 (.inr rfl))⟩
    exact inner B 0 out rfl (Nat.zero_le _) (by omega) hf fun s=>by rw [hc s];simp
  exact go l 0 [] rfl (Nat.zero_le _) (by simp) ⟨(fun d hd=>by cases hd),(fun d hd=>by cases hd)⟩ fun s=>by simp)
 exact ⟨r,h2,h1⟩
theorem q82_.spec {l:List api_FD} {k:Nat} (hk:k<l.length) (hl:l.length<=100000):q82_.C l (k:Int) (l.take k++l.drop (k+1)):=by
 obtain ⟨r,h1,h2⟩:=q82_.enter l (k:Int) (fun r=>r=l.take k++l.drop (k+1)) (by
  rw [Aa3 (by omega)];simp only [Int.toNat_natCast,Nat.sub_zero];refine ⟨by omega,⟨by omega,by omega⟩,by omega,⟨by omega,Nat.le_refl _⟩,?_,?_⟩
  ·simp only [List.length_take,List.length_drop];omega
  ·rw [List.take_of_length_le (l:=l.drop (k+1)) (by rw [List.length_drop];omega)])
 rw [← h1];exact h2
theorem q61_.spec {n:Nat} {l:List api_FD} {k:Nat} {d:api_FD} (h:FdN n l) (hk:l[k]? = some d) (hl:l.length<=100000):q61_.C l (k:Int) (impB (l.take k++l.drop (k+1)) d.Lhs d.Rhs):=by
 have hlt:=(List.getElem?_eq_some_iff.1 hk).1;have hdm:=List.mem_of_getElem? hk;obtain ⟨r,h1,h2⟩:=q61_.enter l (k:Int) (fun r=>r=impB (l.take k++l.drop (k+1)) d.Lhs d.Rhs)
  ⟨_,q82_.spec hlt hl,d,by rw [Ab4,hk],_,q59_.spec (fun x hx=>h.ok x ((Apm hk).2 (.inl hx))) (by simp only [List.length_append,List.length_take,List.length_drop];omega) (h.ok d hdm).1 (h.ok d hdm).2,rfl⟩
 rw [← h1];exact h2
theorem q76_.spec {n:Nat} {l:List api_FD} (hn:n<=16) (h:FdN n l) (hlen:l.length<=64):∃ r,q76_.C l r/\FdN n r/\Aav l r/\r.length<=n*l.length:=by
 have hp:=Abu hn;have hb:n*l.length<=16*64:=Nat.mul_le_mul hn hlen;obtain ⟨r,h1,h2⟩:=q76_.enter l (fun r=>FdN n r/\Aav l r/\r.length<=n*l.length) (by
  obtain ⟨m,m1,m2,m3,m4⟩:=q87_.spec hn h hlen;refine ⟨m,m1,?_⟩;have third:∀ (a i:Nat) (r:List api_FD),r.length-i=a->FdN n r->Aav l r->r.length<=n*l.length->q76_.L3 r (i:Int) (fun r=>FdN n r/\Aav l r/\r.length<=n*l.length):=by
   intro a
   induction a with
   | zero=>
    intro i r ha hf hs hr;apply q76_.L3_step;rw [if_neg (by omega)];exact ⟨hf,hs,hr⟩
   | succ a ih=>
    intro i r ha hf hs hr;have hlt:i<r.length:=by omega
    have hd:=List.getElem?_eq_getElem hlt;apply q76_.L3_step;rw [if_pos (by omega)];refine ⟨_,q61_.spec hf hd (by omega),?_⟩;by_cases hi:impB (r.take i++r.drop (i+1)) (r[i]).Lhs (r[i]).Rhs=true
    ·rw [if_pos hi];have hl2:(r.take i++r.drop (i+1)).length=r.length-1:=by
      simp only [List.length_append,List.length_take,List.length_drop];omega
     refine ⟨_,q82_.spec hlt (by omega),ih i _ (by omega) (hf.mem fun x hx=>(Apm hd).2 (.inl hx)) (hs.trans (Bh5 hd (Axg.1 hi))) (by omega)⟩
    ·rw [if_neg hi,Aa3 (by omega)];exact ih (i+1) r (by omega) hf hs hr
  have first:∀ (a i:Nat) (r:List api_FD),a+i=m.length->r.length=m.length->FdN n r->Aav l r->q76_.L1 r (m.length:Int) (i:Int) (fun r=>FdN n r/\Aav l r/\r.length<=n*l.length):=by
   intro a
   induction a with
   | zero=>
    intro i r ha hr hf hs;apply q76_.L1_step;rw [if_neg (by omega)];obtain ⟨q,q1,q2,q3⟩:=q91_.spec (l:=r) (by omega);exact ⟨q,q1,third _ 0 q rfl (hf.mem fun x hx=>(q2 x).1 hx) (hs.trans (Av2 q2)) (by omega)⟩
   | succ a ih=>
    intro i r ha hr hf hs;have hlt:i<r.length:=by omega
    have hd:=List.getElem?_eq_getElem hlt;have hdm:=List.mem_of_getElem? hd;apply q76_.L1_step;rw [if_pos (by omega)];have hmem:=q58_.spec (n:=sN (r[i]).Lhs) (hf.ok _ hdm).1.lt;rw [← (hf.ok _ hdm).1.eq] at hmem;refine ⟨_,by rw [Ab4,hd],_,hmem,?_⟩;have hbm:∀ x∈Aat (sN (r[i]).Lhs),x<n:=fun x hx=>Acm.1 (hf.fin _ hdm).1 x ((Abq (hf.ok _ hdm).1.lt).1 hx);have hbl:=Afu (n:=sN (r[i]).Lhs);generalize Aat (sN (r[i]).Lhs)=B at hbm hbl ⊢;clear hd hdm hmem;have inner:∀ (q:List Nat) (k:Nat) (r:List api_FD),B.drop k=q->r.length=m.length->FdN n r->Aav l r->q76_.L2 r (i:Int) (m.length:Int) (i:Int) (B.map fun (i:Nat)=>(i:Int)) (k:Int) (fun r=>FdN n r/\Aav l r/\r.length<=n*l.length):=by
     intro q
     induction q with
     | nil=>
      intro k r hk hr hf hs;have hge:=Aax hk;apply q76_.L2_step;rw [if_neg (by rw [List.length_map];omega),Aa3 (by omega)];exact ih (i+1) r (by omega) hr hf hs
     | cons x q ihq=>
      intro k r hk hr hf hs;have hklt:=Aay hk;have hx:=Aaj hk;have hxn:=hbm x (List.mem_of_getElem? hx);have hlt:i<r.length:=by omega
      have hd:=List.getElem?_eq_getElem hlt;have hdm:=List.mem_of_getElem? hd;obtain ⟨u1,u2⟩:=hf.ok _ hdm;obtain ⟨c1,c2⟩:=hf.fin _ hdm;generalize r[i]=d at hd u1 u2 c1 c2;have e2:shlw .u32 1 (x:Int)=((2^x:Nat):Int):=Agl (k:=.u32) (by simp only [top];omega);have h2x:2^x<2^n:=Nat.pow_lt_pow_right (by omega) hxn;have e3:Aaa .u32 d.Lhs (shlw .u32 1 (x:Int))=((Acv (sN d.Lhs) (2^x):Nat):Int):=by
       rw [e2]
       conv=>lhs;rw [u1.eq]
       exact Aic u1.top (Bm7 (by omega))
      have hnd:Acv (sN d.Lhs) (2^x)<2^n:=Nat.lt_of_le_of_lt Amu c1;have hext:q47_.C r d (x:Int) (impB r ((Acv (sN d.Lhs) (2^x):Nat):Int) d.Rhs):=by
       obtain ⟨b,g1,g2⟩:=q47_.enter r d (x:Int) (fun b=>b=impB r ((Acv (sN d.Lhs) (2^x):Nat):Int) d.Rhs)
        ⟨by omega,_,by rw [e3];exact q59_.spec hf.ok (by omega) (U32.of (by omega)) u2,rfl⟩
       rw [← g1];exact g2
      have next:∀ r:List api_FD,r.length=m.length->FdN n r->Aav l r->q76_.L4 r (i:Int) (m.length:Int) (i:Int) (B.map fun (i:Nat)=>(i:Int)) (k:Int) (fun r=>FdN n r/\Aav l r/\r.length<=n*l.length):=fun r hr hf hs=>by
       apply q76_.L4_step;rw [Aa3 (by omega)];exact ihq (k+1) r (Aa7 hk) hr hf hs
      apply q76_.L2_step;rw [if_pos (by rw [List.length_map];omega)];refine ⟨(x:Int),by rw [Ab4,List.getElem?_map,hx];rfl,d,by rw [Ab4,hd],_,hext,?_⟩;by_cases hi:impB r ((Acv (sN d.Lhs) (2^x):Nat):Int) d.Rhs=true
      ·rw [if_pos hi,e3];refine ⟨by omega,?_⟩;have hls:lset r (i:Int) (⟨((Acv (sN d.Lhs) (2^x):Nat):Int),d.Rhs⟩:api_FD)=r.set i ⟨((Acv (sN d.Lhs) (2^x):Nat):Int),d.Rhs⟩:=by unfold lset;rw [Int.toNat_natCast]
       rw [hls];refine next _ (by rw [List.length_set];exact hr) ?_ (hs.trans (Bh6 hd rfl ?_ ?_))
       ·constructor
        ·intro y hy;rcases List.mem_or_eq_of_mem_set hy with hy | rfl
         ·exact hf.ok y hy
         ·exact ⟨U32.of (by omega),u2⟩
        ·intro y hy;rcases List.mem_or_eq_of_mem_set hy with hy | rfl
         ·exact hf.fin y hy
         ·exact ⟨by rw [Ab2];exact hnd,c2⟩
       ·rw [Ab2];intro j hj;rw [Afk,Bool.and_eq_true] at hj;exact hj.1
       ·exact Axg.1 hi
      ·rw [if_neg hi];exact next r hr hf hs
    exact inner B 0 r rfl hr hf hs
  exact first m.length 0 m (by omega) rfl m2 m3)
 exact ⟨r,h2,h1⟩
theorem q77_.spec {n:Nat} {l:List api_FD} (hn:n<=16) (h:FdN n l) (hlen:l.length<=64) (h0:fdsE (n:Int) l=0):∃ r,q77_.C n l (r,0)/\FdN n r/\Aav l r/\r.length<=n*l.length:=by
 obtain ⟨m,m1,m2⟩:=q76_.spec hn h hlen;obtain ⟨r,h1,h2⟩:=q77_.enter n l (fun r=>r=(m,0)) ⟨_,q71_.spec h.ok,by
  rw [if_pos h0];exact ⟨m,m1,rfl⟩⟩
 rw [h1] at h2;exact ⟨m,h2,m2⟩
theorem q88_.spec {n:Nat} {l:List api_FD} (hn:n<=16) (h:FdN n l) (hlen:l.length<=100000):∃ r,q88_.C l r/\FdN n r/\Aav l r/\r.length<=l.length:=by
 have hp:=Abu hn;have hU:AllU (l.map fun d=>d.Lhs):=fun y hy=>by
  obtain ⟨d,hd,rfl⟩:=List.mem_map.1 hy;exact (h.ok d hd).1
 obtain ⟨r,h1,h2⟩:=q88_.enter l (fun r=>FdN n r/\Aav l r/\r.length<=l.length) (by
  have last:∀ (m:List (Int×Int)),(∀ x,U32 (Ac1 x m 0)/\∀ b,(sN (Ac1 x m 0)).testBit b=true↔∃ d∈l,d.Lhs=x/\(sN d.Rhs).testBit b=true) ->
    ∀ (t:List Int) (k:Nat) (out:List api_FD),(ordL (l.map fun d=>d.Lhs)).drop k=t->out=((ordL (l.map fun d=>d.Lhs)).take k).map (fun s=>(⟨s,Ac1 s m 0⟩:api_FD))->out.length<=100000->q88_.L2 m out (ordL (l.map fun d=>d.Lhs)) (k:Int) (fun r=>FdN n r/\Aav l r/\r.length<=l.length):=by
   intro m hm t;have hol:(ordL (l.map fun d=>d.Lhs)).length<=l.length:=by
    have:=Ay0 (l:=l.map fun d=>d.Lhs)
    rwa [List.length_map] at this
   have hmem:=Agk hU;generalize ordL (l.map fun d=>d.Lhs)=O at hol hmem ⊢
   induction t with
   | nil=>
    intro k out hk ho _;have hge:=Aax hk;rw [List.take_of_length_le hge] at ho;subst ho;apply q88_.L2_step;rw [if_neg (by omega)];refine ⟨⟨fun d hd=>?_,fun d hd=>?_⟩,fun s=>⟨fun hc d hd hs b hb=>?_,fun hc d hd hs b hb=>?_⟩,by rw [List.length_map];exact hol⟩
    ·obtain ⟨a,ha,rfl⟩:=List.mem_map.1 hd;obtain ⟨x,hx,rfl⟩:=List.mem_map.1 ((hmem a).1 ha);exact ⟨(h.ok x hx).1,(hm _).1⟩
    ·obtain ⟨a,ha,rfl⟩:=List.mem_map.1 hd;obtain ⟨x,hx,rfl⟩:=List.mem_map.1 ((hmem a).1 ha);refine ⟨(h.fin x hx).1,Acm.2 fun b hb=>?_⟩;obtain ⟨y,hy,_,hyb⟩:=((hm _).2 b).1 hb;exact Acm.1 (h.fin y hy).2 b hyb
    ·obtain ⟨a,ha,rfl⟩:=List.mem_map.1 hd;obtain ⟨y,hy,he,hyb⟩:=((hm _).2 b).1 hb;exact hc y hy (by rw [he];exact hs) b hyb
    ·refine hc ⟨d.Lhs,Ac1 d.Lhs m 0⟩ (List.mem_map.2 ⟨d.Lhs,(hmem _).2 (List.mem_map.2 ⟨d,hd,rfl⟩),rfl⟩) hs b (((hm _).2 b).2 ⟨d,hd,rfl,hb⟩)
   | cons a t ih=>
    intro k out hk ho hlo;have hlt:=Aay hk;have ha:=Aaj hk;have hkl:out.length=k:=by rw [ho,List.length_map,List.length_take];omega
    apply q88_.L2_step;rw [if_pos (by omega)];refine ⟨a,Aar hk,by omega,?_⟩;rw [Aa3 (by omega)];refine ih (k+1) _ (Aa7 hk) ?_ (by rw [List.length_append,List.length_singleton];omega);rw [ho,List.take_add_one,ha,List.map_append];rfl
  have go:∀ (t:List api_FD) (i:Nat) (m:List (Int×Int)) (y:List Int),l.drop i=t->y=(l.take i).map (fun d=>d.Lhs)->(∀ x,U32 (Ac1 x m 0)/\∀ b,(sN (Ac1 x m 0)).testBit b=true↔∃ d∈l.take i,d.Lhs=x/\(sN d.Rhs).testBit b=true)->q88_.L1 l m y (i:Int) (fun r=>FdN n r/\Aav l r/\r.length<=l.length):=by
   intro t
   induction t with
   | nil=>
    intro i m y hi hy hm;have hge:=Aax hi;rw [List.take_of_length_le hge] at hy hm;subst hy;apply q88_.L1_step;rw [if_neg (by omega)];refine ⟨_,q74_.spec (by rw [List.length_map];omega) hU,last m hm _ 0 [] rfl (by simp) (by simp)⟩
   | cons d t ih=>
    intro i m y hi hy hm;have hlt:=Aay hi;have hd:=Aaj hi;have hdm:=List.mem_of_getElem? hd;have hyl:y.length=i:=by rw [hy,List.length_map,List.length_take];omega
    obtain ⟨u1,u2⟩:=h.ok d hdm;obtain ⟨v1,v2⟩:=hm d.Lhs;apply q88_.L1_step;rw [if_pos (by omega)];refine ⟨d,Aar hi,by omega,?_⟩;have e:bOr .u32 (Ac1 d.Lhs m 0) d.Rhs=((sN (Ac1 d.Lhs m 0) ||| sN d.Rhs:Nat):Int):=by
     conv=>lhs;rw [v1.eq,u2.eq]
     exact Ajj v1.top u2.top
    rw [e,Aa3 (by omega)];refine ih (i+1) _ _ (Aa7 hi) (by rw [hy,List.take_add_one,hd,List.map_append];rfl) fun x=>?_;rw [Asn];by_cases hx:d.Lhs=x
    ·rw [if_pos hx];subst hx;refine ⟨U32.of (Nat.or_lt_two_pow v1.lt u2.lt),fun b=>?_⟩;rw [Ab2,Nat.testBit_or,Bool.or_eq_true,v2 b];constructor
     ·rintro (⟨q,hq,g⟩ | g)
      ·exact ⟨q,(Ae6 hd).2 (.inl hq),g⟩
      ·exact ⟨d,(Ae6 hd).2 (.inr rfl),rfl,g⟩
     ·rintro ⟨q,hq,g1,g2⟩;rcases (Ae6 hd).1 hq with hq | rfl
      ·exact .inl ⟨q,hq,g1,g2⟩
      ·exact .inr g2
    ·rw [if_neg hx];refine ⟨(hm x).1,fun b=>?_⟩;rw [(hm x).2 b];constructor
     ·rintro ⟨q,hq,g⟩;exact ⟨q,(Ae6 hd).2 (.inl hq),g⟩
     ·rintro ⟨q,hq,g1,g2⟩;rcases (Ae6 hd).1 hq with hq | rfl
      ·exact ⟨q,hq,g1,g2⟩
      ·exact absurd g1 hx
  refine go l 0 [] [] rfl (by simp) fun x=>?_;have e:Ac1 x ([]:List (Int×Int)) 0=0:=rfl;rw [e];refine ⟨U32.of (n:=0) (by decide),fun b=>?_⟩;have:sN 0=0:=rfl;rw [this,Nat.zero_testBit];simp)
 exact ⟨r,h2,h1⟩
theorem q62_.spec {n:Nat} {l:List api_FD} (hn:n<=16) (h:FdN n l) (hlen:l.length<=64) (h0:fdsE (n:Int) l=0):∃ r,q62_.C n l (r,0)/\FdN n r/\Aav l r/\r.length<=n*l.length:=by
 have hb:n*l.length<=16*64:=Nat.mul_le_mul hn hlen;obtain ⟨m,m1,m2,m3,m4⟩:=q77_.spec hn h hlen h0;obtain ⟨q,q1,q2,q3,q4⟩:=q88_.spec hn m2 (by omega);obtain ⟨r,h1,h2⟩:=q62_.enter n l (fun r=>r=(q,0)) ⟨_,m1,_,q1,rfl⟩;rw [h1] at h2;exact ⟨q,h2,q2,m3.trans q3,by omega⟩
theorem Awd {n:Nat} (hn:n<63):shlw .i64 1 (n:Int)=((2^n:Nat):Int):=Agl (k:=.i64) (by simpa only [top] using hn)
def supB (n:Nat) (l:List api_FD) (s:Nat):Bool:=decide (cloN l s=2^n-1)
def supL (n:Nat) (l:List api_FD):List Bool:=(List.range (2^n)).map (supB n l)
theorem Ayb {n:Nat} {l:List api_FD}:(supL n l).length=2^n:=by simp [supL]
theorem Aya {n s:Nat} {l:List api_FD} (h:s<2^n):lget (supL n l) (s:Int)=some (supB n l s):=by
 rw [Ab4];simp [supL,h]
theorem q94_.spec {n:Nat} (hn:n<=16):q94_.C n ((2^n-1:Nat):Int):=by
 obtain ⟨r,h1,h2⟩:=q94_.enter n (fun r=>r=((2^n-1:Nat):Int)) ⟨by omega,Ar6 hn⟩;rw [← h1];exact h2
theorem Bfu {α:Type} {p q:List α} {a b:α}:lset (p++a::q) ((p.length:Nat):Int) b=p++b::q:=by
 unfold lset;rw [Int.toNat_natCast];simp
theorem q89_.spec {n:Nat} {l:List api_FD} (hn:n<=12) (hl:FdOK l) (hln:l.length<1000000000):q89_.C n l (supL n l):=by
 have hp:=Abu (n:=n) (by omega);have hp12:2^n<=4096:=Nat.le_trans (Nat.pow_le_pow_right (n:=2) (by omega) hn) (by decide);obtain ⟨r,h1,h2⟩:=q89_.enter n l (fun r=>r=supL n l) (by
  rw [Awd (by omega),Int.toNat_natCast];refine ⟨by omega,⟨by omega,by omega⟩,?_⟩;have go:∀ (m k:Nat),k+m=2^n->q89_.L1 n l (((List.range k).map (supB n l))++List.replicate m false) (k:Int) (fun r=>r=supL n l):=by
   intro m
   induction m with
   | zero=>
    intro k hk;apply q89_.L1_step;rw [Awd (by omega),Int.toNat_natCast,List.length_replicate,if_neg (by omega)];rw [List.replicate_zero,List.append_nil,show k=2^n by omega];rfl
   | succ m ih=>
    intro k hk;apply q89_.L1_step;rw [Awd (by omega),Int.toNat_natCast,List.length_replicate,if_pos (by omega)];have ew:IntKind.wrap .u32 (k:Int)=((k:Nat):Int):=Abx (k:=.u32) (by simp only [top];omega);rw [ew,List.replicate_succ];have hlk:((List.range k).map (supB n l)).length=k:=by simp
    refine ⟨_,q75_.spec hl hln (show k<2^32 by omega),_,q94_.spec (by omega),false,?_,?_⟩
    ·rw [Ab4,List.getElem?_append_right (by omega),hlk,Nat.sub_self];rfl
    ·rw [Aa3 (by omega)];have e:((((cloN l k:Nat):Int)) == ((2^n-1:Nat):Int))=supB n l k:=by
      unfold supB;rw [Bool.eq_iff_iff,beq_iff_eq,decide_eq_true_eq];omega
     rw [e];have es:=Bfu (p:=(List.range k).map (supB n l)) (q:=List.replicate m false) (a:=false) (b:=supB n l k);rw [hlk] at es;rw [es];have:=ih (k+1) (by omega);rw [List.range_succ,List.map_append,List.append_assoc] at this;exact this
  exact go (2^n) 0 (by omega))
 rw [← h1];exact h2
namespace q83_
end q83_
namespace q83_
theorem innerT {n:Nat} {l:List api_FD} (hn:n<=12) {s:Nat} (hs:s<2^n) {out:List Int} {φ:List Int->Prop} (h:∀ b:Bool,L5 n (supL n l) true out s b s φ):∀ (m k:Nat) (ok:Bool),k+m=n->L2 n (supL n l) true out s ok k s φ
 | 0,k,ok,hk=>by
  apply L2_step;rw [if_neg (by omega)];exact h ok
 | m+1,k,ok,hk=>by
  have hp12:2^n<=4096:=Nat.le_trans (Nat.pow_le_pow_right (n:=2) (by omega) hn) (by decide);have next:∀ ok':Bool,L3 n (supL n l) true out s ok' k s φ:=fun ok'=>by
   apply L3_step;rw [Aa3 (by omega)];exact innerT hn hs h m (k+1) ok' (by omega)
  apply L2_step;rw [if_pos (by omega)];cases ok with
  | false=>
   rw [if_neg Bool.false_ne_true];exact h false
  | true=>
   rw [if_pos rfl];refine ⟨by omega,?_⟩;have hk2:2^k<2^n:=Nat.pow_lt_pow_right (by omega) (by omega);have e:bXor .i64 (s:Int) (shlw .i64 1 (k:Int))=((s ^^^ 2^k:Nat):Int):=by
    rw [Awd (by omega)];exact Awr (k:=.i64) (by simp only [top];omega) (by simp only [top];omega)
   rw [e];by_cases hb:decide (((s ^^^ 2^k:Nat):Int)<(s:Int))=true
   ·rw [if_pos hb];refine ⟨_,Aya (Nat.xor_lt_two_pow hs hk2),?_⟩;by_cases hq:supB n l (s ^^^ 2^k)=true
    ·rw [if_pos hq];exact next false
    ·rw [if_neg hq];exact next true
   ·rw [if_neg hb];exact next true
theorem loopT {n:Nat} {l:List api_FD} (hn:n<=12) {φ:List Int->Prop} (h:∀ r:List Int,r.length<=4096->(∀ y∈r,∃ s:Nat,y=s/\s<2^n)->φ r):∀ (m k:Nat) (out:List Int),k+m=2^n->out.length<=k->(∀ y∈out,∃ s:Nat,y=s/\s<2^n)->L1 n (supL n l) true out k φ
 | 0,k,out,hk,ho,hm=>by
  have hp12:2^n<=4096:=Nat.le_trans (Nat.pow_le_pow_right (n:=2) (by omega) hn) (by decide);apply L1_step;rw [Ayb,if_neg (by omega)];have hu:AllU out:=fun y hy=>by
   obtain ⟨s,rfl,hs⟩:=hm y hy;exact U32.of (by omega)
  refine ⟨_,q74_.spec (by omega) hu,h _ ?_ fun y hy=>hm y ((Agk hu y).1 hy)⟩;have:=Ay0 (l:=out);omega
 | m+1,k,out,hk,ho,hm=>by
  have hp12:2^n<=4096:=Nat.le_trans (Nat.pow_le_pow_right (n:=2) (by omega) hn) (by decide);have hkn:k<2^n:=by omega
  have next:∀ out':List Int,out'.length<=k+1->(∀ y∈out',∃ s:Nat,y=s/\s<2^n)->L4 n (supL n l) true out' k φ:=fun out' h1 h2=>by
   apply L4_step;rw [Aa3 (by omega)];exact loopT hn h m (k+1) out' (by omega) h1 h2
  apply L1_step;rw [Ayb,if_pos (by omega)];refine ⟨_,Aya hkn,?_⟩;refine innerT hn hkn (fun b=>?_) n 0 _ (by omega);apply L5_step;cases b with
  | false=>rw [if_neg Bool.false_ne_true];exact next out (by omega) hm
  | true=>
   rw [if_pos rfl];have ew:IntKind.wrap .u32 (k:Int)=((k:Nat):Int):=Abx (k:=.u32) (by simp only [top];omega);rw [ew];refine ⟨by omega,next _ (by rw [List.length_append,List.length_singleton];omega) fun y hy=>?_⟩;rcases List.mem_append.1 hy with hy | hy
   ·exact hm y hy
   ·exact ⟨k,List.mem_singleton.1 hy,hkn⟩
theorem some_ {n:Nat} {l:List api_FD} (hn:n<=12):∃ r:List Int,C n (supL n l) true r/\r.length<=4096/\∀ y∈r,∃ s:Nat,y=s/\s<2^n:=by
 obtain ⟨r,h1,h2⟩:=enter n (supL n l) true (fun r=>r.length<=4096/\∀ y∈r,∃ s:Nat,y=s/\s<2^n) (loopT hn (fun r h1 h2=>⟨h1,h2⟩) (2^n) 0 [] (by omega) (Nat.le_refl 0) (fun y hy=>by cases hy));exact ⟨r,h2,h1⟩
end q83_
theorem q95_.of {n:Nat} {l:List api_FD} {r:List Int} (hn:n<=12) (hl:FdOK l) (hln:l.length<1000000000) (h0:fdsE (n:Int) l=0) {S:List Bool} (hS:supL n l=S) (hr:q83_.C n S true r):q95_.C n l (r,0):=by
 obtain ⟨q,h1,h2⟩:=q95_.enter n l (fun q=>q=(r,0)) ⟨_,q71_.spec hl,by
  rw [if_pos h0];exact ⟨_,q89_.spec hn hl hln,r,by rw [hS];exact hr,rfl⟩⟩
 rw [← h1];exact h2
def orI (r:List Int) (a:Int):Int:=r.foldl (fun a y=>bOr .u32 a y) a
theorem q92_.of {n:Nat} {l:List api_FD} {r:List Int} (hl:r.length<=4096) (h:q95_.C n l (r,0)):q92_.C n l (orI r 0,0):=by
 obtain ⟨q,h1,h2⟩:=q92_.enter n l (fun q=>q=(orI r 0,0)) ⟨_,h,by
  have go:∀ (t:List Int) (k:Nat) (a:Int),r.drop k=t->orI t a=orI r 0->q92_.L1 (r,0) a (k:Int) (fun q=>q=(orI r 0,0)):=by
   intro t
   induction t with
   | nil=>
    intro k a hk he;have hge:=Aax hk;apply q92_.L1_step;rw [if_neg (by show ¬ (k:Int)<(r.length:Int);omega),← he];rfl
   | cons y t ih=>
    intro k a hk he;have hlt:=Aay hk;apply q92_.L1_step;rw [if_pos (by show (k:Int)<(r.length:Int);omega)];refine ⟨y,Aar hk,?_⟩;rw [Aa3 (by omega)];exact ih (k+1) _ (Aa7 hk) he
  exact go r 0 0 rfl rfl⟩
 rw [← h1];exact h2
def abcL:List ByteArray:=[⟨#[97]⟩,⟨#[98]⟩,⟨#[99]⟩,⟨#[100]⟩,⟨#[101]⟩,⟨#[102]⟩,⟨#[103]⟩,⟨#[104]⟩,⟨#[105]⟩,⟨#[106]⟩]
def armT (n:Nat) (l:List api_FD):api_Table:={ Name:=⟨#[116]⟩,Attrs:=abcL.take n,Rows:=Abj n 0 (Aca n l) }
def armF (n:Int) (l:List api_FD):api_Table×Int:=if (irrF n l).2=0 then (armT n.toNat l,0) else ({ Name:=⟨#[]⟩,Attrs:=[],Rows:=[] },(irrF n l).2)
theorem Ao0 {n m:Nat}:∀ {ms:List Nat} {k:Nat},Abj n k (ms++[m])=Abj n k ms++[Ajp n (k+ms.length) m]
 | [],k=>by simp [Abj]
 | x::r,k=>by
  simp only [List.cons_append,Abj,List.length_cons];rw [Ao0,show k+1+r.length=k+(r.length+1) by omega]
theorem Bgp:∀ i:Fin 10,Utf8.encode (IntKind.wrap .i32 (IntKind.wrap .i64 (97+(i.val:Int))))=(abcL[i.val]?).getD ⟨#[]⟩:=by decide +kernel
theorem Bet {k:Nat} (h:k<10):abcL.take (k+1)=abcL.take k++[Utf8.encode (IntKind.wrap .i32 (IntKind.wrap .i64 (97+(k:Int))))]:=by
 have e:=Bgp ⟨k,h⟩;simp only at e;rw [e,List.take_add_one];have:k<abcL.length:=h;rw [List.getElem?_eq_getElem this];rfl
theorem Bcm {n k m:Nat}:armV (n+1) k m=armV n k m++[{ Kind:=1,Num:=if m.testBit n=true then 0 else (k:Int),Str:=⟨#[]⟩ }]:=by
 unfold armV;rw [List.range_succ,List.map_append];rfl
theorem Aqs {n k m:Nat}:(armV n k m).length=n:=by simp [armV]
theorem Bke {n:Int} {l:List api_FD} (h:(irrF n l).2=0):errA n l=0/\irrF n l=(irrL n.toNat (Aaq n.toNat l),0):=by
 unfold irrF at h ⊢
 split
 ·rename_i h0;exact ⟨h0,rfl⟩
 ·rename_i h0;rw [if_neg h0] at h;exact absurd h h0
theorem Bfj {n:Nat} {l:List api_FD} (hn:n<=10):AllU (irrL n (Aaq n l)):=fun y hy=>Ald hn y (List.mem_filter.1 hy).1
namespace q63_
theorem cells {n:Nat} {ats:List ByteArray} {rows:List api_Row} {k m:Nat} {l:List Int} {φ:api_Table×Int->Prop} (hn:n<=10) (hm:m<2^32) (hk:k<=2000) (hr:rows.length<=2000)
  (h:L2 n ats (rows++[Ajp n k m]) l (l.length:Int) ((k+1:Nat):Int) φ):∀ (d i:Nat),d+i=n->L3 n ats rows k m ((k+1:Nat):Int) (armV i k m) l (l.length:Int) k i φ
 | 0,i,hd=>by
  have:i=n:=by omega
  subst this;apply L3_step;rw [if_neg (by omega),Aa3 (by omega)];exact ⟨by omega,h⟩
 | d+1,i,hd=>by
  have next:=cells hn hm hk hr h d (i+1) (by omega);rw [Bcm] at next;apply L3_step;rw [if_pos (by omega)];refine ⟨by omega,?_⟩;by_cases hb:m.testBit i=true
  ·rw [if_pos hb] at next;rw [if_neg (fun h=>by rw [Azk (k:=.u32) (by simpa [top] using hm) (by decide)] at h;rw [hb] at h;cases h)];apply L4_step;rw [Aa3 (by omega)];exact ⟨by rw [Aqs];omega,next⟩
  ·rw [if_neg hb] at next;rw [if_pos ((Azk (k:=.u32) (by simpa [top] using hm) (by decide)).2 (by simpa using hb))];apply L4_step;rw [Aa3 (by omega)];exact ⟨by rw [Aqs];omega,next⟩
theorem rows {n:Nat} {ats:List ByteArray} {l:List Int} (hn:n<=10) (hl:AllU l) (hlen:l.length<=1100):∀ (r:List Int) (k:Nat),l.drop k=r->k<=l.length->L2 n ats (Abj n 0 ((l.take k).map sN)) l (l.length:Int) k (fun r=>r=({ Name:=⟨#[116]⟩,Attrs:=ats,Rows:=Abj n 0 (l.map sN) },0))
 | [],k,hd,hk=>by
  have:=Aax hd;apply L2_step;rw [if_neg (by omega),List.take_of_length_le (by omega)]
 | s::r,k,hd,hk=>by
  have hlt:=Aay hd;have hs:=hl s (List.mem_of_getElem? (Aaj hd));apply L2_step;rw [if_pos (by omega)];refine ⟨s,Aar hd,?_⟩;have next:=rows (ats:=ats) hn hl hlen r (k+1) (Aa7 hd) (by omega);rw [List.take_add_one,Aaj hd,Option.toList_some,List.map_append,List.map_cons,List.map_nil,Ao0,List.length_map,List.length_take,Nat.min_eq_left (by omega),Nat.zero_add] at next;rw [Aa3 (by omega)];have:=cells (ats:=ats) (rows:=Abj n 0 ((l.take k).map sN)) hn hs.lt (k:=k) (by omega) (by rw [Ag4,List.length_map,List.length_take];omega) next n 0 (by omega);rw [← hs.eq] at this;exact this
theorem spec {n : Int} {l : List api_FD} (hl : FdOK l) (hn : l.length < 1000000000) : C n l (armF n l) := by
  obtain ⟨r, h1, h2⟩ := enter n l (fun r => r = armF n l) (by
    refine ⟨_, q33_.spec hl hn, ?_⟩;unfold armF
    split
    · rename_i h0
      obtain ⟨h0, e⟩ := Bke h0;obtain ⟨g1, g2, g3⟩ := Alq h0;have hil := Bfi (n := n) (l := l);obtain ⟨m, rfl⟩ : ∃ m : Nat, n = m := ⟨n.toNat, by omega⟩
      rw [Int.toNat_natCast] at e ⊢;have hu := Bfj (n := m) (l := l) (by omega);have hp := Abu (n := m) (by omega);have fin : L1 m (irrF m l) (abcL.take m) m (fun r => r = (armT m l, 0)) := by
        apply L1_step;rw [if_neg (by omega)];refine ⟨_, q69_.spec (by omega), by rw [List.length_singleton]; omega, ?_⟩;have := rows (n := m) (ats := abcL.take m) (l := [((2 ^ m - 1 : Nat) : Int)] ++ (irrF m l).1) (by omega) (fun y hy => by
          rcases List.mem_append.1 hy with hy | hy
          · rw [List.mem_singleton.1 hy]; exact U32.of (by omega)
          · rw [e] at hy; exact hu y hy) (by rw [List.length_append, List.length_singleton]; omega) _ 0 rfl (Nat.zero_le _)
        have et : (([((2 ^ m - 1 : Nat) : Int)] ++ (irrF m l).1).map sN) = Aca m l := by
          rw [e, List.map_append, List.map_cons, List.map_nil, Ab2]; rfl
        rw [et] at this;exact this
      have : ∀ (d i : Nat), d + i = m -> L1 m (irrF m l) (abcL.take i) i (fun r => r = (armT m l, 0)) := by
        intro d
        induction d with
        | zero => intro i hd; have : i = m := by omega
                  subst this; exact fin
        | succ d ih =>
          intro i hd;have next := ih (i + 1) (by omega);rw [Bet (by omega)] at next;apply L1_step;rw [if_pos (by omega), Aa3 (by omega)];exact ⟨by rw [List.length_take]; omega, next⟩
      exact this m 0 (by omega)
    · rfl)
  rw [← h1]; exact h2
end q63_
def An7 (l:List Int) (m:List (Int×Bool)):Prop:=∀ y,Ac1 y m false=true↔y∈l
theorem Bg8 {l:List Int} {m:List (Int×Bool)} {x:Int} (h:An7 l m):An7 (l++[x]) (mset x true m):=fun y=>by
 unfold Ac1;rw [Aom];have hy:=h y;unfold Ac1 at hy
 split
 ·rename_i he;subst he;simp
 ·rename_i he;rw [hy,List.mem_append,List.mem_singleton];exact ⟨.inl,fun h=>h.resolve_right fun h2=>he h2.symm⟩
theorem Bae {a b:api_Value}:(and (a.Kind == b.Kind) (and (a.Num == b.Num) (and (a.Str.toList == b.Str.toList) true)))=true↔a=b:=by
 cases a;cases b;simp only [Bool.and_eq_true,beq_iff_eq,and_true,api_Value.mk.injEq,Ao4]
theorem Bci {t:api_Table} {j i k:Nat}:agrN t (j+1) i k=if EqA t i k j then agrN t j i k ||| 2^j else agrN t j i k:=by
 have hlt:=Ap9 (t:=t) (n:=j) (i:=i) (k:=k);unfold agrN at hlt ⊢;rw [Aex];by_cases h:EqA t i k j
 ·have e:=Nat.two_pow_add_eq_or_of_lt hlt 1;rw [Nat.mul_one] at e;rw [if_pos (decide_eq_true h),if_pos h,Nat.or_comm,← e,Nat.add_comm]
 ·rw [if_neg (by simpa using h),if_neg h];rfl
def Ags (t:api_Table) (l:List Int) (P:Nat->Nat->Prop):Prop:=∀ y,y∈l↔∃ i k,P i k/\i<t.Rows.length/\k<i/\y=((agrN t t.Attrs.length i k:Nat):Int)
namespace q49_
theorem vals {t:api_Table} {out:List Int} {m:List (Int×Bool)} {i k:Nat} {φ:List Int->Prop} (ht:TV t) (hi:i<t.Rows.length) (hk:k<i) {p:List api_Row} (hlen:out.length<=40000) (hs:An7 out m)
  (h:∀ out' m',An7 out' m'->(∀ y,y∈out'↔y∈out∨y=((agrN t t.Attrs.length i k:Nat):Int))->out'.length<=out.length+1->L2 t out' m' (t.Rows[i]) i p (p.length:Int) ((k+1:Nat):Int) φ):∀ (d j:Nat),d+j=t.Attrs.length->L3 t out m (t.Rows[i]) (t.Rows[k]'(by omega)) ((agrN t j i k:Nat):Int) i p (p.length:Int) k j φ
 | 0,j,hd=>by
  have hj:j=t.Attrs.length:=by omega
  subst hj;have hk':k<t.Rows.length:=by omega
  have la:=ht.len (List.getElem_mem hi);have nr:=ht.nr;apply L3_step;rw [if_neg (by omega)];by_cases hin:((agrN t t.Attrs.length i k:Nat):Int)∈out
  ·rw [if_pos ((hs _).2 hin)];apply L5_step;rw [Aa3 (by omega)];exact h out m hs (fun y=>⟨.inl,fun hh=>hh.elim id fun e=>e ▸ hin⟩) (by omega)
  ·rw [if_neg (fun hh=>hin ((hs _).1 hh))];refine ⟨by omega,?_⟩;apply L5_step;rw [Aa3 (by omega)];exact h _ _ (Bg8 hs) (fun y=>by rw [List.mem_append,List.mem_singleton]) (by rw [List.length_append,List.length_singleton];omega)
 | d+1,j,hd=>by
  have hk':k<t.Rows.length:=by omega
  have la:=ht.len (List.getElem_mem hi);have lb:=ht.len (List.getElem_mem hk');have na:=ht.na;have next:=vals ht hi hk hlen hs h d (j+1) (by omega);rw [Bci] at next;have e1:((t.Rows[i]).Values)[j]? = some (((t.Rows[i]).Values)[j]'(by omega)):=List.getElem?_eq_getElem _;have e2:((t.Rows[k]).Values)[j]? = some (((t.Rows[k]).Values)[j]'(by omega)):=List.getElem?_eq_getElem _;have heq:EqA t i k j↔((t.Rows[i]).Values)[j]'(by omega)=((t.Rows[k]).Values)[j]'(by omega):=by
   unfold EqA;rw [List.getElem?_eq_getElem hi,List.getElem?_eq_getElem hk',Option.map_some,Option.map_some,e1,e2];simp
  have hlt:=Ap9 (t:=t) (n:=j) (i:=i) (k:=k);have hp:=Abu (n:=j) (by omega);apply L3_step;rw [if_pos (by omega)];refine ⟨_,Ad4 e1,_,Ad4 e2,?_⟩;by_cases he:EqA t i k j
  ·rw [if_pos he] at next;rw [if_pos (Bae.2 (heq.1 he)),Bjy (by omega),Ajj (k:=.u32) (by simp only [top];omega) (by simp only [top];exact Nat.pow_lt_pow_right (by omega) (by omega))];refine ⟨by omega,?_⟩;apply L4_step;rw [Aa3 (by omega)];exact next
  ·rw [if_neg he] at next;rw [if_neg (fun hh=>he (heq.2 (Bae.1 hh)))];apply L4_step;rw [Aa3 (by omega)];exact next
theorem pairs {t:api_Table} {i:Nat} {φ:List Int->Prop} (ht:TV t) (hi:i<t.Rows.length) (h2:t.Rows.length<=200)
  (h:∀ out m,An7 out m->Ags t out (fun a _=>a<i+1)->out.length<=200*(i+1)->L1 t out m ((i+1:Nat):Int) φ):∀ (d k:Nat) (out:List Int) (m:List (Int×Bool)),d+k=i->An7 out m->Ags t out (fun a b=>a<i∨a=i/\b<k)->out.length<=200*i+k->L2 t out m (t.Rows[i]) i (t.Rows.take i) ((t.Rows.take i).length:Int) k φ
 | 0,k,out,m,hd,hs,ho,hl=>by
  have:k=i:=by omega
  subst this;apply L2_step;rw [if_neg (by rw [List.length_take];omega),Aa3 (by omega)];refine h out m hs (fun y=>?_) (by omega);rw [ho y];constructor
  ·rintro ⟨a,b,h1,h2,h3,h4⟩;exact ⟨a,b,by omega,h2,h3,h4⟩
  ·rintro ⟨a,b,h1,h2,h3,h4⟩;exact ⟨a,b,by omega,h2,h3,h4⟩
 | d+1,k,out,m,hd,hs,ho,hl=>by
  apply L2_step;have hk:k<t.Rows.length:=by omega
  rw [if_pos (by rw [List.length_take];omega)];refine ⟨t.Rows[k],Ad4 (by rw [List.getElem?_take,if_pos (by omega)];exact List.getElem?_eq_getElem hk),?_⟩;have:=vals (t:=t) (out:=out) (m:=m) (i:=i) (k:=k) (φ:=φ) (p:=t.Rows.take i) ht hi (by omega) (by omega) hs (fun out' m' hs' hm hl'=>by
   refine pairs ht hi h2 h d (k+1) out' m' (by omega) hs' (fun y=>?_) (by omega);rw [hm,ho y];constructor
   ·rintro (⟨a,b,h1,h2,h3,h4⟩ | h1)
    ·exact ⟨a,b,by omega,h2,h3,h4⟩
    ·exact ⟨i,k,by omega,hi,by omega,h1⟩
   ·rintro ⟨a,b,h1,h2,h3,h4⟩;by_cases hab:a=i/\b=k
    ·obtain ⟨rfl,rfl⟩:=hab;exact .inr h4
    ·exact .inl ⟨a,b,by omega,h2,h3,h4⟩) t.Attrs.length 0 (by omega)
  exact this
theorem spec {t:api_Table} (ht:TV t) (h2:t.Rows.length<=200):∃ out,C t out/\out.length<=40000/\Ags t out (fun _ _=>True):=by
 obtain ⟨r,r1,r2⟩:=enter t (fun out=>out.length<=40000/\Ags t out (fun _ _=>True)) (by
  have:∀ (d i:Nat) (out:List Int) (m:List (Int×Bool)),d+i=t.Rows.length->An7 out m->Ags t out (fun a _=>a<i)->out.length<=200*i->L1 t out m i (fun out=>out.length<=40000/\Ags t out (fun _ _=>True)):=by
   intro d
   induction d with
   | zero=>
    intro i out m hd hs ho hl;apply L1_step;rw [if_neg (by omega)];refine ⟨by omega,fun y=>?_⟩;rw [ho y];constructor
    ·rintro ⟨a,b,h1,h2,h3,h4⟩;exact ⟨a,b,trivial,h2,h3,h4⟩
    ·rintro ⟨a,b,h1,h2,h3,h4⟩;exact ⟨a,b,by omega,h2,h3,h4⟩
   | succ d ih=>
    intro i out m hd hs ho hl;have hi:i<t.Rows.length:=by omega
    apply L1_step;rw [if_pos (by omega),Int.toNat_natCast,Nat.sub_zero];refine ⟨_,Ad4 (List.getElem?_eq_getElem hi),by omega,by omega,?_⟩;refine pairs ht hi h2 (fun out' m' hs' ho' hl'=>ih (i+1) out' m' (by omega) hs' ho' hl') i 0 out m (by omega) hs (fun y=>?_) (by omega);rw [ho y];constructor
    ·rintro ⟨a,b,h1,h2,h3,h4⟩;exact ⟨a,b,by omega,h2,h3,h4⟩
    ·rintro ⟨a,b,h1,h2,h3,h4⟩;exact ⟨a,b,by omega,h2,h3,h4⟩
  exact this _ 0 [] [] rfl (fun y=>by simp [Ac1,mget]) (fun y=>by simp) (by simp))
 exact ⟨r,r2,r1⟩
end q49_
theorem Bfv {t:api_Table} (ht:TV t) (hn:t.Attrs.length<=10) {out:List Int} (ho:Ags t out (fun _ _=>True)) {x:Nat} (hx:x<2^t.Attrs.length):Ajd (x:Int) ((2^t.Attrs.length-1:Nat):Int) out=((detN t t.Attrs.length x:Nat):Int):=by
 have hp:=Abu (n:=t.Attrs.length) (by omega);have hu:AllU out:=fun y hy=>by
  obtain ⟨a,b,_,_,_,rfl⟩:=(ho y).1 hy;exact U32.of (Nat.lt_of_lt_of_le Ap9 (by omega))
 have hd:=Atl (t:=t) (n:=t.Attrs.length) (x:=x);obtain ⟨a,b⟩:=Amt (s:=(x:Int)) (m:=((2^t.Attrs.length-1:Nat):Int)) hu (U32.of (by omega));refine a.ext (U32.of (by omega)) (Nat.eq_of_testBit_eq fun i=>Bool.eq_iff_iff.2 ?_);rw [b];simp only [Ab2];rw [Ahu,Agu,decide_eq_true_iff];refine and_congr_right fun hi=>?_;rw [Ajl ht (by omega) (Nat.pow_lt_pow_right (by omega) (by omega))];constructor
 ·intro h p q hp hq e c hc;rw [Ahp,decide_eq_true_iff] at hc;subst hc;have:=h _ ((ho _).2 ⟨p,q,trivial,hp,hq,rfl⟩) (by
   rw [Ab2];exact fun b hb=>Amf.2 ⟨Acm.1 hx b hb,e b hb⟩)
  rw [Ab2] at this;exact (Amf.1 this).2
 ·intro h c hc hsub;obtain ⟨p,q,_,hp,hq,rfl⟩:=(ho c).1 hc;rw [Ab2] at hsub;rw [Ab2];exact Amf.2 ⟨hi,h p q hp hq (fun b hb=>(Amf.1 (hsub b hb)).2) i (by rw [Ahp];simp)⟩
theorem Bft {t:api_Table} {l:List api_FD} {n x:Nat} (hn:n<=16) (h:Acu t l n x≠0):(Acu t l n x).testBit (Abm (Acu t l n x) 32 0)=true/\∀ j,j<Abm (Acu t l n x) 32 0->(Acu t l n x).testBit j=false:=by
 have hp:=Abu hn;have hlt:=Axu (t:=t) (l:=l) (n:=n) (x:=x);obtain ⟨j,hj,hb⟩:=Bd8 h (by omega);exact Ar4 (fun j hj=>by omega) ⟨j,by omega,hb⟩
theorem Bdb {t:api_Table} {l:List api_FD} {n:Nat} {y:Int} {r:List Int}:extL t l n (y::r)=if Acu t l n (sN y)=0 then extL t l n r else ({ Lhs:=y,Rhs:=((2^Abm (Acu t l n (sN y)) 32 0:Nat):Int) },0):=rfl
namespace q65_
theorem meets {t:api_Table} {l:List api_FD} {out q:List Int} {i:Nat} {x:Nat} {φ:api_FD×Int->Prop} (hl:FdOK l) (hlen:l.length<1000000000) (h0:errT t l=0) (ho:Ags t out (fun _ _=>True)) (hol:out.length<=40000) (hx:x<2^t.Attrs.length) (hi:i<100000)
  (h:if Acu t l t.Attrs.length x=0 then L1 l (t.Attrs.length:Int) out q ((i+1:Nat):Int) φ else φ ({ Lhs:=(x:Int),Rhs:=((2^Abm (Acu t l t.Attrs.length x) 32 0:Nat):Int) },0)):∀ (r:List Int) (k:Nat) (m:Int),out.drop k=r->Ajd (x:Int) m r=Ajd (x:Int) ((2^t.Attrs.length-1:Nat):Int) out->L2 l (t.Attrs.length:Int) out (x:Int) m q i k φ
 | [],k,m,hd,he=>by
  obtain ⟨g1,g2,g3,g4⟩:=Ahw h0;have hp:=Abu (n:=t.Attrs.length) (by omega);have:=Aax hd;have he:m=Ajd (x:Int) ((2^t.Attrs.length-1:Nat):Int) out:=he;rw [Bfv g1 g3 ho hx] at he;subst he;have hcl:cloN l x<2^t.Attrs.length:=Ath (fun d hd=>(g4 d hd).2) hx;have hdt:=Atl (t:=t) (n:=t.Attrs.length) (x:=x);have e:Aaa .u32 ((detN t t.Attrs.length x:Nat):Int) ((cloN l x:Nat):Int)=((Acu t l t.Attrs.length x:Nat):Int):=Aic (k:=.u32) (by simp only [top];omega) (by simp only [top];omega);have hmt:=Axu (t:=t) (l:=l) (n:=t.Attrs.length) (x:=x);apply L2_step;rw [if_neg (by omega)];refine ⟨_,q75_.spec hl hlen (s:=x) (by omega),?_⟩;rw [e];by_cases hm:Acu t l t.Attrs.length x=0
  ·rw [if_pos hm] at h;rw [if_pos (by omega),Aa3 (by omega)];exact h
  ·rw [if_neg hm] at h;obtain ⟨l1,l2⟩:=Bft (t:=t) (l:=l) (n:=t.Attrs.length) (x:=x) (by omega) hm;rw [if_neg (by omega),Bjl (by omega) l1 l2];exact h
 | c::r,k,m,hd,he=>by
  obtain ⟨g1,g2,g3,g4⟩:=Ahw h0;have hp:=Abu (n:=t.Attrs.length) (by omega);have hlt:=Aay hd;have hc:U32 c:=by
   obtain ⟨a,b,_,_,_,rfl⟩:=(ho c).1 (List.mem_of_getElem? (Aaj hd));exact U32.of (Nat.lt_of_lt_of_le Ap9 (by omega))
  have hxu:U32 (x:Int):=U32.of (by omega);have next:L3 l (t.Attrs.length:Int) out (x:Int) (Awb (x:Int) m c) q i k φ:=by
   apply L3_step;rw [Aa3 (by omega)];exact meets hl hlen h0 ho hol hx hi h r (k+1) _ (Aa7 hd) he
  apply L2_step;rw [if_pos (by omega)];refine ⟨c,Aar hd,?_⟩;unfold Awb at next;by_cases hs:sN (x:Int) &&& sN c=sN (x:Int)
  ·rw [if_pos hs] at next;rw [if_pos ((Apb hc hxu).2 hs)];exact next
  ·rw [if_neg hs] at next;rw [if_neg (fun hh=>hs ((Apb hc hxu).1 hh))];exact next
theorem sets {t:api_Table} {l:List api_FD} {out:List Int} {φ:api_FD×Int->Prop} (hl:FdOK l) (hlen:l.length<1000000000) (h0:errT t l=0) (ho:Ags t out (fun _ _=>True)) (hol:out.length<=40000):∀ (r:List Int) (k:Nat),(Aeu (2^t.Attrs.length-1)).drop k=r->φ (extL t l t.Attrs.length r)->L1 l (t.Attrs.length:Int) out (Aeu (2^t.Attrs.length-1)) k φ
 | [],k,hd,h=>by
  have:=Aax hd;apply L1_step;rw [if_neg (by omega)];exact h
 | y::r,k,hd,h=>by
  obtain ⟨g1,g2,g3,g4⟩:=Ahw h0;have hp:=Abu (n:=t.Attrs.length) (by omega);have hlt:=Aay hd;have hsl:=An9 (n:=t.Attrs.length) (by omega);obtain ⟨x,rfl,hx⟩:=(Akd (by omega)).1 (List.mem_of_getElem? (Aaj hd));rw [Bdb,Ab2] at h;apply L1_step;rw [if_pos (by omega)];refine ⟨_,Aar hd,_,q69_.spec (by omega),?_⟩;refine meets hl hlen h0 ho hol hx (by omega) ?_ out 0 _ rfl rfl;by_cases hm:Acu t l t.Attrs.length x=0
  ·rw [if_pos hm] at h ⊢;exact sets hl hlen h0 ho hol r (k+1) (Aa7 hd) h
  ·rw [if_neg hm] at h ⊢;exact h
theorem spec {t:api_Table} {l:List api_FD} (hl:FdOK l) (hlen:l.length<1000000000):C t l (Alr t l):=by
 obtain ⟨r,h1,h2⟩:=enter t l (fun r=>r=Alr t l) (by
  refine ⟨_,q36_.spec hl,?_⟩;unfold Alr
  split
  ·rename_i h0;obtain ⟨g1,g2,g3,g4⟩:=Ahw h0;have hp:=Abu (n:=t.Attrs.length) (by omega);obtain ⟨out,o1,o2,o3⟩:=q49_.spec g1 g2;exact ⟨out,o1,_,q69_.spec (by omega),_,q56_.spec (by omega),sets hl hlen h0 o3 o2 _ 0 rfl rfl⟩
  ·rfl)
 rw [← h1];exact h2
end q65_
theorem q40_.spec {t:api_Table} {l:List api_FD} (hnum:TNum t) (h0:errT t l=0) (hl:FdOK l) {d:api_FD} (hd:d∈l):q40_.C d t.Name t.Attrs t.Rows (!satB t (sN d.Lhs) (sN d.Rhs)):=by
 obtain ⟨g1,g2,g3,g4⟩:=Ahw h0;obtain ⟨u1,u2⟩:=hl d hd;obtain ⟨v1,v2⟩:=g4 d hd;obtain ⟨q,q1,q2,q3⟩:=q64_.spec (t:=t) (fd:=d) hnum u1.eq u2.eq u1.lt u2.lt;have hh:Ajv t (sN d.Lhs) (sN d.Rhs)=0:=by
  unfold Ajv;rw [if_pos (Ajh.2 g1),if_pos (Nat.or_lt_two_pow v1 v2)]
 obtain ⟨r,h1,h2⟩:=q40_.enter d t.Name t.Attrs t.Rows (fun r=>r=!satB t (sN d.Lhs) (sN d.Rhs)) ⟨q,q1,by
  have:q.1=satB t (sN d.Lhs) (sN d.Rhs):=Bool.eq_iff_iff.2 (by rw [q3,An6,hh];simp);rw [this]⟩
 rw [← h1];exact h2
theorem Bcv {t:api_Table}:∀ {l:List api_FD} {k:Nat},(Afi (fun d=>!satB t (sN d.Lhs) (sN d.Rhs)) l k = -1/\brkL t l=({ Lhs:=0,Rhs:=0 },4))∨∃ (n:Nat) (d:api_FD),Afi (fun d=>!satB t (sN d.Lhs) (sN d.Rhs)) l k=((k+n:Nat):Int)/\l[n]? = some d/\brkL t l=(d,0)
 | [],k=>.inl ⟨rfl,rfl⟩
 | d::l,k=>by
  by_cases h:satB t (sN d.Lhs) (sN d.Rhs)=true
  ·rcases Bcv (t:=t) (l:=l) (k:=k+1) with ⟨h1,h2⟩ | ⟨n,e,h1,h2,h3⟩
   ·left;refine ⟨?_,by rw [brkL,if_pos h];exact h2⟩;rw [Afi,if_neg (by rw [h];decide)];exact h1
   ·right;refine ⟨n+1,e,?_,by simpa using h2,by rw [brkL,if_pos h];exact h3⟩;rw [Afi,if_neg (by rw [h];decide),h1];congr 1;omega
  ·right;have h':satB t (sN d.Lhs) (sN d.Rhs)=false:=by simpa using h
   refine ⟨0,d,?_,rfl,by rw [brkL,if_neg h]⟩;rw [Afi,if_pos (by rw [h'];rfl)];rfl
theorem q50_.spec {t:api_Table} {l:List api_FD} (hnum:TNum t) (hl:FdOK l) (hlen:l.length<1000000000):q50_.C t l (brkF t l):=by
 obtain ⟨r,h1,h2⟩:=q50_.enter t l (fun r=>r=brkF t l) (by
  refine ⟨_,q36_.spec hl,?_⟩;unfold brkF
  split
  ·rename_i h0;obtain ⟨g1,g2,g3,g4⟩:=Ahw h0;obtain ⟨q,q1,q2⟩:=q12_.enter l t.Name t.Attrs t.Rows (fun r=>r=ixI (fun d=>!satB t (sN d.Lhs) (sN d.Rhs)) l) (by
    refine Aj8 (l:=l) (p:=fun d=>!satB t (sN d.Lhs) (sN d.Rhs)) (L:=fun i=>q12_.L1 l t.Name t.Attrs t.Rows i _) (φ:=fun r=>r=ixI (fun d=>!satB t (sN d.Lhs) (sN d.Rhs)) l) (fun h=>?_) (fun k d hk hlt h=>?_) rfl
    ·apply q12_.L1_step;rw [if_neg (by omega)];exact h
    ·apply q12_.L1_step;rw [if_pos (by omega)];refine ⟨d,Ad4 hk,_,q40_.spec hnum h0 hl (List.mem_of_getElem? hk),?_⟩;rw [Aa3 (by omega)];exact h)
   subst q1;refine ⟨_,q2,?_⟩;rcases Bcv (t:=t) (l:=l) (k:=0) with ⟨a1,a2⟩ | ⟨n,d,a1,a2,a3⟩
   ·have:ixI (fun d=>!satB t (sN d.Lhs) (sN d.Rhs)) l = -1:=a1;rw [this,if_pos (by omega),a2]
   ·have:ixI (fun d=>!satB t (sN d.Lhs) (sN d.Rhs)) l=((n:Nat):Int):=by rw [Nat.zero_add] at a1;exact a1
    rw [this,if_neg (by omega),a3];exact ⟨d,Ad4 a2,rfl⟩
  ·rfl)
 rw [← h1];exact h2
theorem q66_.spec {t:api_Table} {l:List api_FD} (hnum:TNum t) (hl:FdOK l) (hlen:l.length<1000000000):q66_.C t l (Aob t l):=by
 obtain ⟨r,h1,h2⟩:=q66_.enter t l (fun r=>r=Aob t l) (by
  refine ⟨_,q36_.spec hl,?_⟩;unfold Aob
  split
  ·rename_i h0;refine ⟨_,q65_.spec hl hlen,_,q50_.spec hnum hl hlen,?_⟩;have he:=Bd7 h0;by_cases h4:(Alr t l).2=4
   ·rw [if_pos h4];refine Prod.ext (Bool.eq_iff_iff.2 ?_) rfl;rw [he,beq_iff_eq];simp [h4]
   ·rw [if_neg h4];refine Prod.ext (Bool.eq_iff_iff.2 ?_) rfl;rw [he];simp [h4]
  ·rfl)
 rw [← h1];exact h2
end Go.Own
