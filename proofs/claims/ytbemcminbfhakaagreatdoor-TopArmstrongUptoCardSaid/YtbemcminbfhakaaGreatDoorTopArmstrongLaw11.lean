/- What the functions that the law reaches answer. No conditions. -/
import Derived.Test.YtbemcminbfhakaaGreatDoorTopArmstrongLaw4
import Derived.Test.YtbemcminbfhakaaGreatDoorTopArmstrongLaw9
import Derived.Test.YtbemcminbfhakaaGreatDoorTopArmstrongLaw10
import Derived.Test.YtbemcminbfhakaaGreatDoorTopArmstrongLaw6
import Derived.Test.YtbemcminbfhakaaGreatDoorTopArmstrongLaw1
import Derived.Test.YtbemcminbfhakaaGreatDoorBase2
import Derived.Test.YtbemcminbfhakaaGreatDoorOwn25
set_option linter.all false
namespace Go.Own
def ltS (x y:Int):Bool:=decide (keyS x<keyS y)
theorem ltS_swo:Go.Sort.SWO ltS where
 irrefl:=fun x=>by unfold ltS;simp
 trans:=fun x y z h1 h2=>by unfold ltS at *;simp only [decide_eq_true_eq] at *;omega
 ntrans:=fun x y z h1 h2=>by unfold ltS at *;simp only [decide_eq_false_iff_not] at *;omega
theorem cmp_Compare_int.spec {x y:Int}:cmp_Compare_int.C x y (cmpI x y):=by
 obtain ⟨f1,g1,k1⟩:=cmp_isNaN_int.enter x (fun r=>r=false) (by simp)
 obtain ⟨f2,g2,k2⟩:=cmp_isNaN_int.enter y (fun r=>r=false) (by simp)
 subst g1 g2
 obtain ⟨r,h1,h2⟩:=cmp_Compare_int.enter x y (fun r=>r=cmpI x y) (by
  refine ⟨_,k1,_,k2,?_⟩
  rw [if_neg (by decide),if_neg (by decide)]
  unfold cmpI
  split
  ·rfl
  ·split<;>rfl)
 rw [← h1];exact h2
theorem cmp_Compare_api_Set.spec {x y:Int}:cmp_Compare_api_Set.C x y (cmpI x y):=by
 obtain ⟨f1,g1,k1⟩:=cmp_isNaN_api_Set.enter x (fun r=>r=false) (by simp)
 obtain ⟨f2,g2,k2⟩:=cmp_isNaN_api_Set.enter y (fun r=>r=false) (by simp)
 subst g1 g2
 obtain ⟨r,h1,h2⟩:=cmp_Compare_api_Set.enter x y (fun r=>r=cmpI x y) (by
  refine ⟨_,k1,_,k2,?_⟩
  rw [if_neg (by decide),if_neg (by decide)]
  unfold cmpI
  split
  ·rfl
  ·split<;>rfl)
 rw [← h1];exact h2
theorem cmp_Or_int.two {a b:Int}:cmp_Or_int.C [a,b] (if a=0 then b else a):=by
 obtain ⟨r,h1,h2⟩:=cmp_Or_int.enter [a,b] (fun r=>r=if a=0 then b else a) (by
  apply cmp_Or_int.L1_step
  rw [if_pos (by simp)]
  refine ⟨a,rfl,?_⟩
  by_cases ha:a=0
  ·rw [if_pos ha]
   apply cmp_Or_int.L1_step
   have e:IntKind.wrap .i64 ((0:Int)+1)=1:=by decide
   rw [e,if_pos (by simp)]
   refine ⟨b,rfl,?_⟩
   by_cases hb:b=0
   ·rw [if_pos hb]
    apply cmp_Or_int.L1_step
    have e:IntKind.wrap .i64 ((1:Int)+1)=2:=by decide
    rw [e,if_neg (by simp),if_pos ha,hb]
   ·rw [if_neg hb,if_pos ha]
  ·rw [if_neg ha,if_neg ha])
 rw [← h1];exact h2
theorem cmpS_ok:CmpOK U32 ltS attrset_compare.C:=fun x y hx hy=>by
 obtain ⟨r,h1,h2⟩:=attrset_compare.enter x y (fun r=>r<0↔ltS x y=true) (by
  refine ⟨_,attrset_Size.spec hx,_,attrset_Size.spec hy,_,cmp_Compare_int.spec,_,cmp_Compare_api_Set.spec,_,cmp_Or_int.two,?_⟩
  unfold ltS
  rw [decide_eq_true_eq,keyS_lt hx hy]
  have ex:=hx.eq
  have ey:=hy.eq
  unfold cmpI
  generalize szN (sN x)=s at *
  generalize szN (sN y)=t at *
  by_cases h1:(s:Int)<t
  ·rw [if_pos h1,if_neg (by decide)];omega
  ·rw [if_neg h1]
   by_cases h2:(t:Int)<s
   ·rw [if_pos h2,if_neg (by decide)];omega
   ·rw [if_neg h2,if_pos rfl]
    split
    ·omega
    ·split<;>omega)
 exact ⟨r,h2,h1⟩
end Go.Own
namespace Go.Own
theorem compactL_snoc:∀ (l:List Int) (a b:Int),compactL (l++[a]++[b])=if a=b then compactL (l++[a]) else compactL (l++[a])++[b]
 | [],a,b=>by
  simp only [List.nil_append,List.singleton_append,compactL]
  split<;>simp_all
 | [c],a,b=>by
  simp only [List.singleton_append,List.cons_append,List.nil_append,compactL]
  split<;>split<;>simp_all
 | c::d::r,a,b=>by
  have ih:=compactL_snoc (d::r) a b
  simp only [List.cons_append,compactL] at ih ⊢
  rw [ih]
  split<;>split<;>simp
theorem take_snoc {l:List Int} {m:Nat} {a:Int} (h:l[m]? = some a):l.take (m+1)=l.take m++[a]:=by
 rw [List.take_add_one,h];rfl
theorem compact_step {l:List Int} {m:Nat} {a b:Int} (ha:l[m]? = some a) (hb:l[m+1]? = some b):compactL (l.take (m+2))=if a=b then compactL (l.take (m+1)) else compactL (l.take (m+1))++[b]:=by
 have e1:l.take (m+2)=l.take m++[a]++[b]:=by rw [take_snoc (m:=m+1) hb,take_snoc ha]
 rw [e1,take_snoc ha,compactL_snoc]
namespace slices_Compact_sapi_Set_api_Set
theorem inner {l:List Int} {o:Nat} {φ:List Int×Bool→Prop} (ho:1≤o) (hol:o<l.length) (hl:l.length<4611686018427387904) (h:∀ b,φ (compactL l,b)) (n:Nat):∀ (s:List Int) (k k2:Nat),l.length-o-k2≤n→1≤k2→o+k2≤l.length→s.length=l.length→k≤o+k2-1→s.take k=compactL (l.take (o+k2))→(∀ i,o+k2-1≤i→s[i]? = l[i]?)→L2 s k o (l.length-o) k2 φ:=by
 have hend:∀ (s:List Int) (k k2:Nat),o+k2=l.length→s.length=l.length→k≤o+k2-1→s.take k=compactL (l.take (o+k2))→L2 s k o (l.length-o) k2 φ:=fun s k k2 hk2 hs hk ht=>by
  apply L2_step
  refine ⟨by omega,?_⟩
  rw [if_neg (by rw [List.length_take,List.length_drop];omega)]
  refine ⟨by omega,⟨by omega,by omega⟩,by omega,by omega,by omega,by omega,⟨by omega,by omega,by omega⟩,?_⟩
  rw [Int.toNat_natCast]
  have e:s.take k=compactL l:=by rw [ht,List.take_of_length_le (by omega)]
  rw [e]
  exact h _
 induction n with
 | zero=>intro s k k2 hn h1 hk2 hs hk ht hd;exact hend s k k2 (by omega) hs hk ht
 | succ n ih=>
  intro s k k2 hn h1 hk2 hs hk ht hd
  by_cases hlt:o+k2<l.length
  ·apply L2_step
   refine ⟨by omega,?_⟩
   rw [if_pos (by rw [List.length_take,List.length_drop];omega)]
   obtain ⟨b,hb⟩:∃ b,l[o+k2]? = some b:=⟨_,List.getElem?_eq_getElem hlt⟩
   obtain ⟨a,ha⟩:∃ a,l[o+k2-1]? = some a:=⟨_,List.getElem?_eq_getElem (by omega)⟩
   have e1:(o:Int)+(k2:Int)=((o+k2:Nat):Int):=by omega
   have e2:IntKind.wrap .i64 ((k2:Int)-1)=((k2-1:Nat):Int):=wx _ _ (by omega) (by omega)
   have e3:(o:Int)+((k2-1:Nat):Int)=((o+k2-1:Nat):Int):=by omega
   have e4:IntKind.wrap .i64 ((k2:Int)+1)=((k2+1:Nat):Int):=wx _ _ (by omega) (by omega)
   have e5:IntKind.wrap .i64 ((k:Int)+1)=((k+1:Nat):Int):=wx _ _ (by omega) (by omega)
   rw [e1,e2,e3]
   have hstep:=compact_step (l:=l) (m:=o+k2-1) ha (by rw [show o+k2-1+1=o+k2 by omega];exact hb)
   rw [show o+k2-1+2=o+(k2+1) by omega,show o+k2-1+1=o+k2 by omega] at hstep
   refine ⟨b,by rw [lget_nat,hd _ (by omega)];exact hb,⟨by omega,by omega⟩,by omega,a,by rw [lget_nat,hd _ (by omega)];exact ha,⟨by omega,by omega⟩,by omega,?_⟩
   by_cases hab:b=a
   ·rw [if_pos hab]
    apply L3_step
    rw [e4]
    rw [if_pos hab.symm] at hstep
    exact ih s k (k2+1) (by omega) (by omega) (by omega) hs (by omega) (by rw [ht,hstep]) (fun i hi=>hd i (by omega))
   ·rw [if_neg hab]
    rw [if_neg (fun h=>hab h.symm)] at hstep
    obtain ⟨c,hc⟩:∃ c,s[k]? = some c:=⟨_,List.getElem?_eq_getElem (by omega)⟩
    refine ⟨⟨by omega,by omega⟩,by omega,c,by rw [lget_nat];exact hc,?_⟩
    apply L3_step
    rw [e4,e5]
    have hls:lset s (k:Int) b=s.set k b:=by unfold lset;rw [Int.toNat_natCast]
    rw [hls]
    refine ih (s.set k b) (k+1) (k2+1) (by omega) (by omega) (by omega) (by rw [List.length_set];exact hs) (by omega) ?_ (fun i hi=>?_)
    ·rw [hstep,← ht,take_snoc (a:=b) (by rw [List.getElem?_set_self (by omega)])]
     congr 1
     rw [List.take_set_of_le (Nat.le_refl k)]
    ·rw [List.getElem?_set_ne (by omega)]
     exact hd i (by omega)
  ·exact hend s k k2 (by omega) hs hk ht
theorem outer {l:List Int} {φ:List Int×Bool→Prop} (hl:l.length<4611686018427387904) (h:∀ b,φ (compactL l,b)) (n:Nat):∀ i,l.length-i≤n→1≤i→i≤l.length→compactL (l.take i)=l.take i→L1 l i φ:=by
 induction n with
 | zero=>
  intro i hn h1 hi hc
  apply L1_step
  rw [if_neg (by omega)]
  have e:i=l.length:=by omega
  rw [e,List.take_length] at hc
  have:=h true
  rwa [hc] at this
 | succ n ih=>
  intro i hn h1 hi hc
  by_cases hlt:i<l.length
  ·apply L1_step
   rw [if_pos (by omega)]
   obtain ⟨b,hb⟩:∃ b,l[i]? = some b:=⟨_,List.getElem?_eq_getElem hlt⟩
   obtain ⟨a,ha⟩:∃ a,l[i-1]? = some a:=⟨_,List.getElem?_eq_getElem (by omega)⟩
   have e2:IntKind.wrap .i64 ((i:Int)-1)=((i-1:Nat):Int):=wx _ _ (by omega) (by omega)
   have e4:IntKind.wrap .i64 ((i:Int)+1)=((i+1:Nat):Int):=wx _ _ (by omega) (by omega)
   rw [e2,e4]
   have hstep:=compact_step (l:=l) (m:=i-1) ha (by rw [show i-1+1=i by omega];exact hb)
   rw [show i-1+2=i+1 by omega,show i-1+1=i by omega] at hstep
   refine ⟨b,by rw [lget_nat];exact hb,a,by rw [lget_nat];exact ha,?_⟩
   by_cases hab:b=a
   ·rw [if_pos hab]
    rw [if_pos hab.symm] at hstep
    refine ⟨by omega,⟨by omega,by omega⟩,?_⟩
    rw [Int.toNat_natCast]
    exact inner (o:=i) h1 hlt hl h (l.length-i-1) l i 1 (Nat.le_refl _) (Nat.le_refl _) (by omega) rfl (by omega) (by rw [hstep,hc]) (fun _ _=>rfl)
   ·rw [if_neg hab]
    rw [if_neg (fun h=>hab h.symm)] at hstep
    exact ih (i+1) (by omega) (by omega) (by omega) (by rw [hstep,hc,take_snoc hb])
  ·apply L1_step
   rw [if_neg (by omega)]
   have e:i=l.length:=by omega
   rw [e,List.take_length] at hc
   have:=h true
   rwa [hc] at this
theorem spec {l:List Int} (hl:l.length<4611686018427387904):∃ b,C l (compactL l,b):=by
 obtain ⟨r,⟨b,rfl⟩,h2⟩:=enter l (fun r=>∃ b,r=(compactL l,b)) (by
  split
  ·rename_i h
   refine ⟨true,?_⟩
   match l,h with
   | [],_=>rfl
   | [a],_=>rfl
   | _::_::_,h=>simp at h;omega
  ·rename_i h
   have:1≤l.length:=by omega
   exact outer hl (fun b=>⟨b,rfl⟩) (l.length-1) 1 (by omega) (by omega) this (by
    obtain ⟨a,r,rfl⟩:∃ a r,l=a::r:=by cases l with
     | nil=>simp at this
     | cons a r=>exact ⟨a,r,rfl⟩
    rfl))
 exact ⟨b,h2⟩
end slices_Compact_sapi_Set_api_Set
end Go.Own
namespace Go.Own
theorem attrset_Order.spec {l:List Int} (hl:l.length≤35184372088832) (hu:AllU l):attrset_Order.C l (ordL l):=by
 obtain ⟨r,h1,h2⟩:=attrset_Order.enter l (fun r=>r=ordL l) (by
  obtain ⟨s,c,hp,ha⟩:=slices_SortFunc_sapi_Set_api_Set_attrset_compare.spec cmpS_ok ltS_swo (l:=l) (by omega) hu
  have hlen:=hp.length_eq
  obtain ⟨b,c2⟩:=slices_Compact_sapi_Set_api_Set.spec (l:=s) (by omega)
  refine ⟨by omega,s,c,_,c2,?_⟩
  have hus:AllU s:=fun x hx=>hu x (hp.mem_iff.1 hx)
  refine ordL_eq hu (compactL_asc hus (ha.imp fun h=>?_)) fun y=>by rw [compactL_mem,hp.mem_iff]
  unfold ltS at h
  simp only [decide_eq_false_iff_not] at h
  omega)
 rw [← h1];exact h2
end Go.Own
namespace Go.Own
def subL (s:Nat):List Int:=(bsL 32 s).map fun (n:Nat)=>(n:Int)
theorem subL_mem {s:Nat} (hs:s<2^32) {y:Int}:y∈subL s↔∃ n:Nat,y=n∧n &&& s=n:=by
 unfold subL
 rw [List.mem_map]
 constructor
 ·rintro ⟨n,hn,rfl⟩;exact ⟨n,rfl,(bsL_mem hs n).1 hn⟩
 ·rintro ⟨n,rfl,hn⟩;exact ⟨n,(bsL_mem hs n).2 hn,rfl⟩
theorem subL_all {s:Nat} (hs:s<2^32):AllU (subL s):=fun y hy=>by
 obtain ⟨n,rfl,hn⟩:=(subL_mem hs).1 hy
 have:=sub_le hn
 exact U32.of (by omega)
def subsF (s:Nat):List Int:=if 12<szN s then [] else ordL (subL s)
theorem ordL_nodup_len {l:List Int} (hu:AllU l) (hn:l.Nodup):(ordL l).length=l.length:=by
 have h1:(ordL l).Nodup:=(ordL_asc hu).imp fun {a b} h=>fun e=>by subst e;omega
 exact ((List.perm_ext_iff_of_nodup h1 hn).2 fun y=>ordL_mem hu y).length_eq
theorem subs_count {s:Nat} (hs:s<2^32):(ordL (subL s)).length=2^szN s:=by
 rw [ordL_nodup_len (subL_all hs)]
 ·unfold subL
  rw [List.length_map,bsL_len];rfl
 ·unfold subL
  have h1:(bsL 32 s).Nodup:=bsL_asc.imp fun {a b} h=>by omega
  exact List.Pairwise.map _ (fun a b h=>by omega) h1
theorem attrset_Subsets.loop {s:Nat} (hs:s<2^32) {φ:List Int→Prop} (h:φ (ordL (subL s))) (n:Nat):∀ (x:Nat) (out:List Int),x≤n→x &&& s=x→out.length+x≤s+1→(∀ y,y∈out↔∃ m:Nat,y=m∧m &&& s=m∧x≤m)→attrset_Subsets.L1 s out x φ:=by
 induction n with
 | zero=>
  intro x out hx hsub hl hm
  have:x=0:=by omega
  subst this
  apply attrset_Subsets.L1_step
  rw [if_pos (by omega)]
  have hmem:∀ y,y∈out↔y∈subL s:=fun y=>by
   rw [hm,subL_mem hs]
   constructor
   ·rintro ⟨m,a,b,_⟩;exact ⟨m,a,b⟩
   ·rintro ⟨m,a,b⟩;exact ⟨m,a,b,Nat.zero_le _⟩
  have hu:AllU out:=fun y hy=>subL_all hs y ((hmem y).1 hy)
  refine ⟨_,attrset_Order.spec (by omega) hu,?_⟩
  rw [ordL_congr (subL_all hs) hmem];exact h
 | succ n ih=>
  intro x out hx hsub hl hm
  by_cases h0:x=0
  ·exact ih x out (by omega) hsub hl hm
  ·apply attrset_Subsets.L1_step
   rw [if_neg (by omega)]
   refine ⟨by omega,?_⟩
   have hxs:=sub_le hsub
   have e1:IntKind.wrap .u32 ((x:Int)-1)=((x-1:Nat):Int):=by
    rw [show (x:Int)-1=((x-1:Nat):Int) by omega]
    exact wrap_top (k:=.u32) (by simp only [top];omega)
   rw [e1,bAnd_nat (k:=.u32) (by simp only [top];omega) (by simpa [top] using hs)]
   have hp:(x-1) &&& s≤x-1:=Nat.and_le_left
   refine ih _ _ (by omega) (by rw [Nat.and_assoc,Nat.and_self]) (by rw [List.length_append,List.length_singleton];omega) fun y=>?_
   rw [List.mem_append,hm,List.mem_singleton]
   constructor
   ·rintro (⟨m,a,b,c⟩ | rfl)
    ·exact ⟨m,a,b,by omega⟩
    ·exact ⟨_,rfl,by rw [Nat.and_assoc,Nat.and_self],Nat.le_refl _⟩
   ·rintro ⟨m,rfl,b,c⟩
    rcases Nat.lt_or_ge m x with h1 | h1
    ·right
     have:=pred_sub x s m hsub (by omega) b h1
     have:m=(x-1) &&& s:=by omega
     rw [this]
    ·exact .inl ⟨m,rfl,b,h1⟩
theorem attrset_Subsets.spec {s:Nat} (hs:s<2^32):attrset_Subsets.C s (subsF s):=by
 obtain ⟨r,h1,h2⟩:=attrset_Subsets.enter s (fun r=>r=subsF s) (by
  have hz:=attrset_Size.spec (x:=(s:Int)) (U32.of hs)
  rw [sN_nat] at hz
  refine ⟨_,hz,?_⟩
  unfold subsF
  by_cases h12:12<szN s
  ·rw [if_pos (by omega),if_pos h12]
  ·rw [if_neg (by omega),if_neg h12]
   refine attrset_Subsets.loop (φ:=fun r=>r=ordL (subL s)) hs (Eq.refl _) s s [(s:Int)] (Nat.le_refl s) (Nat.and_self s) (by rw [List.length_singleton];omega) fun y=>?_
   rw [List.mem_singleton]
   constructor
   ·rintro rfl;exact ⟨s,rfl,Nat.and_self s,Nat.le_refl _⟩
   ·rintro ⟨m,rfl,b,c⟩
    have:=sub_le b
    have:m=s:=by omega
    rw [this])
 rw [← h1];exact h2
end Go.Own
namespace Go.Own
theorem szN_full16:∀ n:Nat,n≤16→szN (2^n-1)=n:=by
 intro n hn
 have:∀ i:Fin 17,szN (2^i.val-1)=i.val:=by decide +kernel
 exact this ⟨n,by omega⟩
theorem sub_pow {m n:Nat}:m &&& (2^n-1)=m↔m<2^n:=by
 rw [Nat.and_two_pow_sub_one_eq_mod]
 constructor
 ·intro h
  rw [← h];exact Nat.mod_lt _ (Nat.pow_pos (by omega))
 ·exact Nat.mod_eq_of_lt
def rngL (n:Nat):List Int:=(List.range (2^n)).map fun (m:Nat)=>(m:Int)
theorem rngL_mem {n:Nat} {y:Int}:y∈rngL n↔∃ m:Nat,y=m∧m<2^n:=by
 unfold rngL
 rw [List.mem_map]
 constructor
 ·rintro ⟨m,hm,rfl⟩;exact ⟨m,rfl,List.mem_range.1 hm⟩
 ·rintro ⟨m,rfl,hm⟩;exact ⟨m,List.mem_range.2 hm,rfl⟩
theorem pow16 {n:Nat} (hn:n≤16):2^n≤65536∧0<2^n:=⟨Nat.pow_le_pow_right (n:=2) (by omega) hn,Nat.pow_pos (by omega)⟩
theorem rngL_all {n:Nat} (hn:n≤16):AllU (rngL n):=fun y hy=>by
 obtain ⟨m,rfl,hm⟩:=rngL_mem.1 hy
 have:=pow16 hn
 exact U32.of (by omega)
theorem subs_full {n:Nat} (hn:n≤12):subsF (2^n-1)=ordL (subL (2^n-1)):=by
 unfold subsF
 rw [if_neg (by rw [szN_full16 n (by omega)];omega)]
theorem subs_mem {n:Nat} (hn:n≤12) {y:Int}:y∈subsF (2^n-1)↔∃ m:Nat,y=m∧m<2^n:=by
 have hp:=pow16 (n:=n) (by omega)
 have hs:2^n-1<2^32:=by omega
 rw [subs_full hn,ordL_mem (subL_all hs),subL_mem hs]
 constructor
 ·rintro ⟨m,rfl,h⟩;exact ⟨m,rfl,sub_pow.1 h⟩
 ·rintro ⟨m,rfl,h⟩;exact ⟨m,rfl,sub_pow.2 h⟩
theorem subs_all {n:Nat} (hn:n≤12):AllU (subsF (2^n-1)):=fun y hy=>by
 obtain ⟨m,rfl,hm⟩:=(subs_mem hn).1 hy
 have:=pow16 (n:=n) (by omega)
 exact U32.of (by omega)
theorem subs_len {n:Nat} (hn:n≤12):(subsF (2^n-1)).length=2^n:=by
 have hp:=pow16 (n:=n) (by omega)
 rw [subs_full hn,subs_count (by omega),szN_full16 n (by omega)]
end Go.Own
namespace Go.Own
theorem passN_cons (d:api_FD) (l:List api_FD) (s:Nat):passN (d::l) s=passN l (if sN d.Lhs &&& s=sN d.Lhs then s ||| sN d.Rhs else s):=rfl
theorem andNot_zero {a:Int} {s:Nat} (ha:U32 a) (hs:s<2^32):bAndNot .u32 a s=0↔sN a &&& s=sN a:=by
 have e:bAndNot .u32 a s=((ndiff (sN a) s:Nat):Int):=by
  conv=>lhs;rw [ha.eq]
  exact bAndNot_nat ha.top (by simpa [top] using hs)
 rw [e,sub_iff,← ndiff_zero];omega
theorem or_nat {a:Int} {s:Nat} (ha:U32 a) (hs:s<2^32):bOr .u32 s a=((s ||| sN a:Nat):Int):=by
 conv=>lhs;rw [ha.eq]
 exact bOr_nat (by simpa [top] using hs) ha.top
namespace closure_Close
theorem pass {l:List api_FD} (hl:FdOK l) (hn:l.length<1000000000) {b:Int} {φ:Int→Prop}:∀ (r:List api_FD) (k s:Nat),l.drop k=r→s<2^32→(if ((passN r s:Nat):Int)=b then φ ((passN r s:Nat):Int) else L1 l ((passN r s:Nat):Int) φ)→L2 l s b k φ:=by
 intro r
 induction r with
 | nil=>
  intro k s hd hs h
  have:=drop_ge hd
  apply L2_step
  rw [if_neg (by omega)]
  exact h
 | cons d r ih=>
  intro k s hd hs h
  have hlt:=drop_lt hd
  have hd':=hl d (List.mem_of_getElem? (drop_get hd))
  apply L2_step
  rw [if_pos (by omega)]
  refine ⟨d,lget_drop hd,?_⟩
  rw [passN_cons] at h
  by_cases hz:sN d.Lhs &&& s=sN d.Lhs
  ·rw [if_pos ((andNot_zero hd'.1 hs).2 hz),or_nat hd'.2 hs]
   rw [if_pos hz] at h
   apply L3_step
   rw [wrap_succ (by omega)]
   exact ih (k+1) _ (drop_next hd) (Nat.or_lt_two_pow hs hd'.2.lt) h
  ·rw [if_neg (fun hh=>hz ((andNot_zero hd'.1 hs).1 hh))]
   rw [if_neg hz] at h
   apply L3_step
   rw [wrap_succ (by omega)]
   exact ih (k+1) s (drop_next hd) hs h
theorem loop {l:List api_FD} (hl:FdOK l) (hn:l.length<1000000000) {φ:Int→Prop}:∀ (k s:Nat),s<2^32→33≤k+szN s→φ ((passK l k s:Nat):Int)→L1 l s φ
 | 0,s,hs,hk,h=>by have:=bitsOf_len (n:=s);unfold szN at hk;omega
 | k+1,s,hs,hk,h=>by
  have hr:∀ d∈l,sN d.Rhs<2^32:=fun d hd=>(hl d hd).2.lt
  apply L1_step
  refine pass hl hn l 0 s rfl hs ?_
  rw [passK] at h
  by_cases hz:passN l s=s
  ·rw [if_pos (by rw [hz]),hz]
   rw [hz,passK_fix hz] at h
   exact h
  ·rw [if_neg (by omega)]
   have:=szN_lt (passN_up (l:=l)) (Ne.symm hz) (passN_lt hs hr)
   exact loop hl hn k _ (passN_lt hs hr) (by omega) h
theorem spec {l:List api_FD} (hl:FdOK l) (hn:l.length<1000000000) {s:Nat} (hs:s<2^32):C l s ((cloN l s:Nat):Int):=by
 obtain ⟨r,h1,h2⟩:=enter l s (fun r=>r=((cloN l s:Nat):Int)) (loop hl hn 33 s hs (by omega) rfl)
 rw [← h1];exact h2
end closure_Close
def cloB (l:List api_FD) (s:Nat):Bool:=l.all fun d=>!decide (sN d.Lhs &&& s=sN d.Lhs) || decide (sN d.Rhs &&& s=sN d.Rhs)
theorem cloB_iff {l:List api_FD} {s:Nat}:cloB l s=true↔IsClo l s:=by
 unfold cloB IsClo
 rw [List.all_eq_true]
 constructor
 ·intro h d hd hs
  have:=h d hd
  rw [decide_eq_true (sub_iff.2 hs),Bool.not_true,Bool.false_or,decide_eq_true_iff] at this
  exact sub_iff.1 this
 ·intro h d hd
  by_cases hs:sN d.Lhs &&& s=sN d.Lhs
  ·rw [decide_eq_true hs,decide_eq_true (sub_iff.2 (h d hd (sub_iff.1 hs)))];rfl
  ·rw [decide_eq_false hs];rfl
theorem closure_enlarges.spec {l:List api_FD} (hl:FdOK l) (hn:l.length<1000000000) {s:Nat} (hs:s<2^32):∃ r,closure_enlarges.C l s r∧(r<0↔cloB l s=true):=by
 obtain ⟨r,h1,h2⟩:=closure_enlarges.enter l s (fun r=>(r<0↔cloB l s=true)) (by
  have:∀ (r:List api_FD) (k:Nat),l.drop k=r→(cloB r s=cloB l s)→closure_enlarges.L1 l s k (fun r=>(r<0↔cloB l s=true)):=by
   intro r
   induction r with
   | nil=>
    intro k hd he
    have:=drop_ge hd
    apply closure_enlarges.L1_step
    rw [if_neg (by omega),← he]
    simp [cloB]
   | cons d r ih=>
    intro k hd he
    have hlt:=drop_lt hd
    have hd':=hl d (List.mem_of_getElem? (drop_get hd))
    have ec:cloB (d::r) s=((!decide (sN d.Lhs &&& s=sN d.Lhs) || decide (sN d.Rhs &&& s=sN d.Rhs))&&cloB r s):=rfl
    rw [ec] at he
    have next:cloB r s=cloB l s→closure_enlarges.L2 l s k (fun r=>(r<0↔cloB l s=true)):=fun h=>by
     apply closure_enlarges.L2_step
     rw [wrap_succ (by omega)]
     exact ih (k+1) (drop_next hd) h
    apply closure_enlarges.L1_step
    rw [if_pos (by omega)]
    refine ⟨d,lget_drop hd,?_⟩
    by_cases h1:sN d.Lhs &&& s=sN d.Lhs
    ·rw [if_pos ((andNot_zero hd'.1 hs).2 h1)]
     by_cases h2:sN d.Rhs &&& s=sN d.Rhs
     ·rw [if_pos ((andNot_zero hd'.2 hs).2 h2)]
      exact next (by rw [← he,decide_eq_true h1,decide_eq_true h2];rfl)
     ·rw [if_neg (fun hh=>h2 ((andNot_zero hd'.2 hs).1 hh)),← he,decide_eq_true h1,decide_eq_false h2]
      simp
    ·rw [if_neg (fun hh=>h1 ((andNot_zero hd'.1 hs).1 hh))]
     exact next (by rw [← he,decide_eq_false h1];rfl)
  exact this l 0 rfl rfl)
 exact ⟨r,h2,h1⟩
def closedL (n:Nat) (l:List api_FD):List Int:=(subsF (2^n-1)).filter fun y=>cloB l (sN y)
def closedE (n:Int) (l:List api_FD):List Int×Int:=if n<0∨16<n then ([],7) else if 12<n then ([],3) else if fdsE n l=0 then (closedL n.toNat l,0) else ([],fdsE n l)
theorem pow_full {n:Nat} (hn:n≤16):IntKind.wrap .u32 (shlw .u32 1 (n:Int)-1)=((2^n-1:Nat):Int):=by
 have hp:=pow16 hn
 have e:shlw .u32 1 (n:Int)=((2^n:Nat):Int):=shl1_nat (k:=.u32) (by simp only [top];omega)
 rw [e,show (((2^n:Nat):Int)-1)=((2^n-1:Nat):Int) by omega]
 exact wrap_top (k:=.u32) (by simp only [top];omega)
theorem closure_Closed.spec {n:Int} {l:List api_FD} (hl:FdOK l) (hn:l.length<1000000000):closure_Closed.C n l (closedE n l):=by
 obtain ⟨r,h1,h2⟩:=closure_Closed.enter n l (fun r=>r=closedE n l) (by
  unfold closedE
  by_cases a:n<0
  ·rw [if_pos a,if_pos (.inl a)]
  rw [if_neg a]
  by_cases b:16<n
  ·rw [if_pos b,if_pos (.inr b)]
  rw [if_neg b,if_neg (show ¬(n<0∨16<n) by omega)]
  by_cases c:12<n
  ·rw [if_pos c,if_pos c]
  rw [if_neg c,if_neg c]
  refine ⟨_,closure_Valid.spec hl,?_⟩
  split
  ·obtain ⟨m,rfl⟩:∃ m:Nat,n=m:=⟨n.toNat,by omega⟩
   have hp:=pow16 (n:=m) (by omega)
   rw [pow_full (by omega),Int.toNat_natCast]
   refine ⟨by omega,_,attrset_Subsets.spec (by omega),?_⟩
   unfold closedL
   have hu:=subs_all (n:=m) (by omega)
   have hlen:=subs_len (n:=m) (by omega)
   generalize subsF (2^m-1)=q at *
   have:∀ (r:List Int) (k:Nat) (out:List Int),q.drop k=r→out.length≤k→out++(r.filter fun y=>cloB l (sN y))=(q.filter fun y=>cloB l (sN y))→closure_Closed.L1 l out q k (fun r=>r=(q.filter fun y=>cloB l (sN y),0)):=by
    intro r
    induction r with
    | nil=>
     intro k out hd hk he
     have:=drop_ge hd
     apply closure_Closed.L1_step
     rw [if_neg (by omega),← he]
     simp
    | cons y r ih=>
     intro k out hd hk he
     have hlt:=drop_lt hd
     have hy:=hu y (List.mem_of_getElem? (drop_get hd))
     apply closure_Closed.L1_step
     rw [if_pos (by omega)]
     obtain ⟨e,e1,e2⟩:=closure_enlarges.spec hl hn hy.lt
     rw [← hy.eq] at e1
     refine ⟨y,lget_drop hd,e,e1,?_⟩
     by_cases hc:cloB l (sN y)=true
     ·rw [if_pos (e2.2 hc)]
      refine ⟨by omega,?_⟩
      apply closure_Closed.L2_step
      rw [wrap_succ (by omega)]
      refine ih (k+1) _ (drop_next hd) (by rw [List.length_append,List.length_singleton];omega) ?_
      rw [← he,List.filter_cons_of_pos (p:=fun y=>cloB l (sN y)) hc];simp
     ·rw [if_neg (fun h=>hc (e2.1 h))]
      apply closure_Closed.L2_step
      rw [wrap_succ (by omega)]
      refine ih (k+1) _ (drop_next hd) (by omega) ?_
      rw [← he,List.filter_cons_of_neg (p:=fun y=>cloB l (sN y)) hc]
   exact this q 0 [] rfl (Nat.le_refl _) rfl
  ·rfl)
 rw [← h1];exact h2
theorem full_small {n:Nat} (hn:n≤16):fullN n=2^n-1:=by unfold fullN;rw [Nat.min_eq_left (by omega)]
end Go.Own
namespace Go.Own
def errA (n:Int) (l:List api_FD):Int:=if fdsE n l=0 then (if 10<n then 3 else 0) else fdsE n l
theorem armstrong_check.spec {n:Int} {l:List api_FD} (hl:FdOK l):armstrong_check.C n l (errA n l):=by
 obtain ⟨r,h1,h2⟩:=armstrong_check.enter n l (fun r=>r=errA n l) (by
  refine ⟨_,closure_Valid.spec hl,?_⟩
  unfold errA
  split
  ·split<;>rfl
  ·rfl)
 rw [← h1];exact h2
theorem errA_n {n:Int} {l:List api_FD} (h:errA n l=0):0≤n∧n≤10∧fdsE n l=0:=by
 unfold errA at h
 split at h
 ·rename_i h0
  have:=fdsE_n h0
  split at h
  ·cases h
  ·exact ⟨by omega,by omega,h0⟩
 ·rename_i h0;exact absurd h h0
theorem closedE_ok {n:Int} {l:List api_FD} (h:errA n l=0):closedE n l=(closedL n.toNat l,0):=by
 obtain ⟨h1,h2,h3⟩:=errA_n h
 unfold closedE
 rw [if_neg (by omega),if_neg (by omega),if_pos h3]
theorem armstrong_full.spec {n:Nat} (hn:n≤16):armstrong_full.C n ((2^n-1:Nat):Int):=by
 obtain ⟨r,h1,h2⟩:=armstrong_full.enter n (fun r=>r=((2^n-1:Nat):Int)) ⟨by omega,pow_full hn⟩
 rw [← h1];exact h2
theorem full_spec {n:Nat} (hn:n≤16):drossref02_Full.C n ((2^n-1:Nat):Int):=by
 rw [← full_small hn];exact drossref02_Full.spec
def meetS (s m c:Int):Int:=if c=s then m else if sN s &&& sN c=sN s then bAnd .u32 m c else m
def meetF (s:Int) (m:Int):List Int→Int
 | []=>m
 | c::r=>meetF s (meetS s m c) r
def irrB (n:Nat) (cl:List Int) (s:Int):Bool:=if s=((2^n-1:Nat):Int) then false else if meetF s ((2^n-1:Nat):Int) cl=s then false else true
def irrL (n:Nat) (cl:List Int):List Int:=cl.filter (irrB n cl)
def irrF (n:Int) (l:List api_FD):List Int×Int:=if errA n l=0 then (irrL n.toNat (closedL n.toNat l),0) else ([],errA n l)
theorem and_sub {c s:Int} (hc:U32 c) (hs:U32 s):bAnd .u32 c s=s↔sN s &&& sN c=sN s:=by
 have e:bAnd .u32 c s=((sN c &&& sN s:Nat):Int):=by
  conv=>lhs;rw [hc.eq,hs.eq]
  exact bAnd_nat hc.top hs.top
 have es:=hs.eq
 rw [e,Nat.and_comm]
 omega
theorem closedL_len {n:Nat} {l:List api_FD} (hn:n≤10):(closedL n l).length≤1024:=by
 unfold closedL
 refine Nat.le_trans (List.length_filter_le _ _) ?_
 rw [subs_len (by omega)]
 exact Nat.pow_le_pow_right (n:=2) (by omega) hn
theorem closedL_all {n:Nat} {l:List api_FD} (hn:n≤10):AllU (closedL n l):=fun y hy=>subs_all (by omega) y (List.mem_filter.1 hy).1
namespace armstrong_Irreducible
theorem inner {n:Nat} {cl:List Int} {e:Int} {out:List Int} {i:Nat} {s:Int} {φ:List Int×Int→Prop} (hn:n≤10) (hu:AllU cl) (hl:cl.length≤1024) (hs:U32 s) (ho:out.length≤1024) (hi:i≤1024)
  (h:L1 n (cl,e) (if irrB n cl s=true then out++[s] else out) ((i+1:Nat):Int) φ):∀ (r:List Int) (k:Nat) (m:Int),cl.drop k=r→meetF s m r=meetF s ((2^n-1:Nat):Int) cl→L2 n (cl,e) out s m i k φ:=by
 intro r
 induction r with
 | nil=>
  intro k m hd he
  have:=drop_ge hd
  have he:m=meetF s ((2^n-1:Nat):Int) cl:=he
  have skip:irrB n cl s=false→L4 n (cl,e) out i φ:=fun hb=>by
   apply L4_step
   rw [wrap_succ (by omega)]
   rw [if_neg (by rw [hb];decide)] at h;exact h
  apply L2_step
  rw [if_neg (by show ¬ ((k:Int)<(cl.length:Int));omega)]
  refine ⟨_,armstrong_full.spec (by omega),?_⟩
  by_cases h1:s=((2^n-1:Nat):Int)
  ·rw [if_pos h1]
   exact skip (by unfold irrB;rw [if_pos h1])
  ·rw [if_neg h1]
   by_cases h2:m=s
   ·rw [if_pos h2]
    exact skip (by unfold irrB;rw [if_neg h1,if_pos (by rw [← he];exact h2)])
   ·rw [if_neg h2]
    have hb:irrB n cl s=true:=by unfold irrB;rw [if_neg h1,if_neg (by rw [← he];exact h2)]
    refine ⟨by omega,?_⟩
    apply L4_step
    rw [wrap_succ (by omega)]
    rw [if_pos hb] at h;exact h
 | cons c r ih=>
  intro k m hd he
  have hlt:=drop_lt hd
  have hc:=hu c (List.mem_of_getElem? (drop_get hd))
  have next:L3 n (cl,e) out s (meetS s m c) i k φ:=by
   apply L3_step
   rw [wrap_succ (by omega)]
   exact ih (k+1) _ (drop_next hd) he
  apply L2_step
  rw [if_pos (by show (k:Int)<(cl.length:Int);omega)]
  refine ⟨c,lget_drop hd,?_⟩
  unfold meetS at next
  by_cases h1:c=s
  ·rw [if_pos h1] at next ⊢;exact next
  ·rw [if_neg h1] at next ⊢
   by_cases h2:sN s &&& sN c=sN s
   ·rw [if_pos h2] at next
    rw [if_pos ((and_sub hc hs).2 h2)];exact next
   ·rw [if_neg h2] at next
    rw [if_neg (fun hh=>h2 ((and_sub hc hs).1 hh))];exact next
theorem spec {n:Int} {l:List api_FD} (hl:FdOK l) (hn:l.length<1000000000):C n l (irrF n l):=by
 obtain ⟨r,h1,h2⟩:=enter n l (fun r=>r=irrF n l) (by
  refine ⟨_,armstrong_check.spec hl,?_⟩
  unfold irrF
  split
  ·rename_i h0
   obtain ⟨g1,g2,g3⟩:=errA_n h0
   have hc:=closure_Closed.spec (n:=n) hl hn
   rw [closedE_ok h0] at hc
   refine ⟨_,hc,?_⟩
   rw [if_pos rfl]
   obtain ⟨m,rfl⟩:∃ m:Nat,n=m:=⟨n.toNat,by omega⟩
   rw [Int.toNat_natCast]
   have hu:=closedL_all (n:=m) (l:=l) (by omega)
   have hlen:=closedL_len (n:=m) (l:=l) (by omega)
   generalize closedL m l=cl at *
   unfold irrL
   have:∀ (r:List Int) (k:Nat) (out:List Int),cl.drop k=r→k≤cl.length→out.length≤k→out++r.filter (irrB m cl)=cl.filter (irrB m cl)→L1 m (cl,0) out k (fun r=>r=(cl.filter (irrB m cl),0)):=by
    intro r
    induction r with
    | nil=>
     intro k out hd hk ho he
     have:=drop_ge hd
     apply L1_step
     rw [if_neg (by show ¬ ((k:Int)<(cl.length:Int));omega),← he]
     simp
    | cons s r ih=>
     intro k out hd hk ho he
     have hlt:=drop_lt hd
     have hs:=hu s (List.mem_of_getElem? (drop_get hd))
     apply L1_step
     rw [if_pos (by show (k:Int)<(cl.length:Int);omega)]
     refine ⟨s,lget_drop hd,_,armstrong_full.spec (by omega),?_⟩
     refine inner (by omega) hu hlen hs (by omega) (by omega) ?_ cl 0 _ rfl rfl
     refine ih (k+1) _ (drop_next hd) (by omega) ?_ ?_
     ·split
      ·rw [List.length_append,List.length_singleton];omega
      ·omega
     ·rw [← he]
      by_cases hb:irrB m cl s=true
      ·rw [if_pos hb,List.filter_cons_of_pos hb];simp
      ·rw [if_neg hb,List.filter_cons_of_neg hb]
   exact this cl 0 [] rfl (Nat.zero_le _) (Nat.le_refl _) rfl
  ·rfl)
 rw [← h1];exact h2
end armstrong_Irreducible
theorem irrF_len {n:Int} {l:List api_FD}:(irrF n l).1.length≤1024:=by
 unfold irrF
 split
 ·rename_i h0
  obtain ⟨g1,g2,g3⟩:=errA_n h0
  exact Nat.le_trans (List.length_filter_le _ _) (closedL_len (by omega))
 ·simp
end Go.Own
namespace Go.Own
def CloP (n:Nat) (l:List api_FD) (m:Nat):Prop:=m<2^n∧IsClo l m
theorem closedL_mem {n:Nat} {l:List api_FD} (hn:n≤12) {y:Int}:y∈closedL n l↔∃ m:Nat,y=m∧CloP n l m:=by
 unfold closedL CloP
 rw [List.mem_filter,subs_mem hn]
 constructor
 ·rintro ⟨⟨m,rfl,hm⟩,h⟩
  rw [sN_nat] at h
  exact ⟨m,rfl,hm,cloB_iff.1 h⟩
 ·rintro ⟨m,rfl,hm,h⟩
  exact ⟨⟨m,rfl,hm⟩,by rw [sN_nat];exact cloB_iff.2 h⟩
theorem meetF_spec {s:Int}:∀ {cl:List Int} {m:Int},AllU cl→U32 m→U32 (meetF s m cl)∧∀ i,(sN (meetF s m cl)).testBit i=true↔(sN m).testBit i=true∧∀ c∈cl,c≠s→subN (sN s) (sN c)→(sN c).testBit i=true
 | [],m,_,hm=>⟨hm,fun i=>by simp [meetF]⟩
 | c::r,m,hu,hm=>by
  have hc:=hu c (by simp)
  have hu':AllU r:=fun y hy=>hu y (by simp [hy])
  have e:bAnd .u32 m c=((sN m &&& sN c:Nat):Int):=by
   conv=>lhs;rw [hm.eq,hc.eq]
   exact bAnd_nat hm.top hc.top
  simp only [meetF,meetS]
  by_cases h1:c=s
  ·rw [if_pos h1]
   obtain ⟨a,b⟩:=meetF_spec (s:=s) hu' hm
   refine ⟨a,fun i=>?_⟩
   rw [b]
   simp only [List.forall_mem_cons,h1]
   constructor
   ·rintro ⟨q1,q3⟩;exact ⟨q1,fun h=>absurd rfl h,q3⟩
   ·rintro ⟨q1,_,q3⟩;exact ⟨q1,q3⟩
  ·rw [if_neg h1]
   by_cases h2:sN s &&& sN c=sN s
   ·rw [if_pos h2]
    have hU:U32 (bAnd .u32 m c):=by
     rw [e];exact U32.of (Nat.lt_of_le_of_lt Nat.and_le_left hm.lt)
    obtain ⟨a,b⟩:=meetF_spec (s:=s) hu' hU
    refine ⟨a,fun i=>?_⟩
    rw [b,e,sN_nat,Nat.testBit_and]
    simp only [List.forall_mem_cons,Bool.and_eq_true]
    constructor
    ·rintro ⟨⟨q1,q2⟩,q3⟩;exact ⟨q1,fun _ _=>q2,q3⟩
    ·rintro ⟨q1,q2,q3⟩;exact ⟨⟨q1,q2 h1 (sub_iff.1 h2)⟩,q3⟩
   ·rw [if_neg h2]
    obtain ⟨a,b⟩:=meetF_spec (s:=s) hu' hm
    refine ⟨a,fun i=>?_⟩
    rw [b]
    simp only [List.forall_mem_cons]
    constructor
    ·rintro ⟨q1,q3⟩;exact ⟨q1,fun _ h=>absurd (sub_iff.2 h) h2,q3⟩
    ·rintro ⟨q1,_,q3⟩;exact ⟨q1,q3⟩
theorem pow_bit {n i:Nat}:(2^n-1).testBit i=decide (i<n):=Nat.testBit_two_pow_sub_one n i
def IrrP (n:Nat) (l:List api_FD) (m:Nat):Prop:=CloP n l m∧∃ a,a<n∧m.testBit a=false∧∀ c,CloP n l c→subN m c→c≠m→c.testBit a=true
theorem irr_mem {n:Nat} {l:List api_FD} (hn:n≤10) {y:Int}:y∈irrL n (closedL n l)↔∃ m:Nat,y=m∧IrrP n l m:=by
 unfold irrL
 rw [List.mem_filter,closedL_mem (by omega)]
 have hp:=pow16 (n:=n) (by omega)
 have hu:=closedL_all (n:=n) (l:=l) hn
 have hfu:U32 ((2^n-1:Nat):Int):=U32.of (by omega)
 constructor
 ·rintro ⟨⟨m,rfl,hm⟩,h⟩
  refine ⟨m,rfl,hm,?_⟩
  unfold irrB at h
  split at h
  ·cases h
  rename_i h1
  split at h
  ·cases h
  rename_i h2
  obtain ⟨ha,hb⟩:=meetF_spec (s:=(m:Int)) hu hfu
  have hne:sN (meetF (m:Int) ((2^n-1:Nat):Int) (closedL n l))≠m:=fun he=>h2 (by rw [ha.eq,he])
  have hsub:subN m (sN (meetF (m:Int) ((2^n-1:Nat):Int) (closedL n l))):=fun i hi=>by
   rw [hb,sN_nat]
   refine ⟨?_,fun c _ _ hs=>?_⟩
   ·rw [pow_bit,decide_eq_true_iff];exact lt_iff.1 hm.1 i hi
   ·rw [sN_nat] at hs;exact hs i hi
  have hex:∃ i,(sN (meetF (m:Int) ((2^n-1:Nat):Int) (closedL n l))).testBit i=true∧m.testBit i=false:=by
   false_or_by_contra
   rename_i hno
   refine hne (subN_anti (fun i hi=>?_) hsub)
   cases hmi:m.testBit i with
   | true=>rfl
   | false=>exact absurd ⟨i,hi,hmi⟩ hno
  obtain ⟨a,a1,a2⟩:=hex
  rw [hb,sN_nat,pow_bit,decide_eq_true_iff] at a1
  refine ⟨a,a1.1,a2,fun c hc hs hne=>?_⟩
  have:=a1.2 (c:Int) ((closedL_mem (by omega)).2 ⟨c,rfl,hc⟩) (by omega) (by rw [sN_nat,sN_nat];exact hs)
  rw [sN_nat] at this;exact this
 ·rintro ⟨m,rfl,hm,a,a1,a2,a3⟩
  refine ⟨⟨m,rfl,hm⟩,?_⟩
  have h1:¬ ((m:Int)=((2^n-1:Nat):Int)):=fun he=>by
   have:m=2^n-1:=by omega
   rw [this,pow_bit,decide_eq_false_iff_not] at a2
   exact a2 a1
  obtain ⟨ha,hb⟩:=meetF_spec (s:=(m:Int)) hu hfu
  have h2:¬ meetF (m:Int) ((2^n-1:Nat):Int) (closedL n l)=(m:Int):=fun he=>by
   have:=(hb a).2 ⟨by rw [sN_nat,pow_bit,decide_eq_true_iff];exact a1,fun c hc hne hs=>by
    obtain ⟨k,rfl,hk⟩:=(closedL_mem (by omega)).1 hc
    rw [sN_nat,sN_nat] at hs
    rw [sN_nat]
    exact a3 k hk hs (by omega)⟩
   rw [he,sN_nat,a2] at this
   cases this
  unfold irrB
  rw [if_neg h1,if_neg h2]
theorem irr_ex {n:Nat} {l:List api_FD} {s a:Nat} (ha:a<n) (hs:CloP n l s) (hsa:s.testBit a=false):∃ m,IrrP n l m∧subN s m∧m.testBit a=false:=by
 have:∀ d s,2^n-s≤d→CloP n l s→s.testBit a=false→∃ m,IrrP n l m∧subN s m∧m.testBit a=false:=by
  intro d
  induction d with
  | zero=>intro s hd hs;have:=hs.1;omega
  | succ d ih=>
   intro s hd hs hsa
   by_cases hx:∃ c,CloP n l c∧subN s c∧c≠s∧c.testBit a=false
   ·obtain ⟨c,c1,c2,c3,c4⟩:=hx
    have hlt:s<c:=by
     have hle:s≤c:=by
      have:s &&& c=s:=sub_iff.2 c2
      rw [← this];exact Nat.and_le_right
     omega
    have:=hs.1
    obtain ⟨m,m1,m2,m3⟩:=ih c (by omega) c1 c4
    exact ⟨m,m1,subN_trans c2 m2,m3⟩
   ·refine ⟨s,⟨hs,a,ha,hsa,fun c hc hsc hne=>?_⟩,subN_refl s,hsa⟩
    cases hca:c.testBit a with
    | true=>rfl
    | false=>exact absurd ⟨c,hc,hsc,hne,hca⟩ hx
 exact this _ s (Nat.le_refl _) hs hsa
def FdIn (n:Nat) (l:List api_FD):Prop:=∀ d∈l,sN d.Lhs<2^n∧sN d.Rhs<2^n
theorem fdsE_in {n:Int} {l:List api_FD} (h:fdsE n l=0):FdIn n.toNat l:=by
 unfold fdsE at h
 split at h
 ·cases h
 ·split at h
  ·cases h
  ·split at h
   ·rename_i ha
    intro d hd
    have:=List.all_eq_true.1 ha d hd
    unfold inU at this
    simp only [Bool.and_eq_true,decide_eq_true_eq] at this
    exact this
   ·cases h
theorem FdIn.r32 {n:Nat} {l:List api_FD} (h:FdIn n l) (hn:n≤16):∀ d∈l,sN d.Rhs<2^32:=fun d hd=>by
 have:=(h d hd).2
 have:=pow16 hn
 omega
theorem clo_CloP {n:Nat} {l:List api_FD} (h:FdIn n l) (hn:n≤16) {s:Nat} (hs:s<2^n):CloP n l (cloN l s):=
 ⟨cloN_lt (fun d hd=>(h d hd).2) hs,cloN_clo (h.r32 hn) (by have:=pow16 hn;omega)⟩
end Go.Own
namespace Go.Own
def armV (n k m:Nat):List api_Value:=(List.range n).map fun i=>{ Kind:=1,Num:=if m.testBit i=true then 0 else (k:Int),Str:=⟨#[]⟩ }
def armRow (n k m:Nat):api_Row:={ ID:=((k+1:Nat):Int),Values:=armV n k m }
def armRows (n:Nat):Nat→List Nat→List api_Row
 | _,[]=>[]
 | k,m::r=>armRow n k m::armRows n (k+1) r
theorem armRows_get {n:Nat}:∀ {ms:List Nat} {k j:Nat},(armRows n k ms)[j]? = (ms[j]?).map (armRow n (k+j))
 | [],k,j=>by simp [armRows]
 | m::r,k,0=>by simp [armRows]
 | m::r,k,j+1=>by
  simp only [armRows,List.getElem?_cons_succ]
  rw [armRows_get,show k+1+j=k+(j+1) by omega]
theorem armRows_len {n:Nat}:∀ {ms:List Nat} {k:Nat},(armRows n k ms).length=ms.length
 | [],_=>rfl
 | m::r,k=>by simp only [armRows,List.length_cons,armRows_len]
def armMs (n:Nat) (l:List api_FD):List Nat:=(2^n-1)::(irrL n (closedL n l)).map sN
theorem armMs_mem {n:Nat} {l:List api_FD} (hn:n≤10) {m:Nat}:m∈(irrL n (closedL n l)).map sN↔IrrP n l m:=by
 rw [List.mem_map]
 constructor
 ·rintro ⟨y,hy,rfl⟩
  obtain ⟨m,rfl,hm⟩:=(irr_mem hn).1 hy
  rw [sN_nat];exact hm
 ·intro hm
  exact ⟨m,(irr_mem hn).2 ⟨m,rfl,hm⟩,sN_nat⟩
theorem armV_get {n k m a:Nat} (ha:a<n):(armV n k m)[a]? = some { Kind:=1,Num:=if m.testBit a=true then 0 else (k:Int),Str:=⟨#[]⟩ }:=by
 unfold armV
 rw [List.getElem?_map,List.getElem?_range ha];rfl
theorem arm_eqA {n:Nat} {l:List api_FD} {t:api_Table} (htr:t.Rows=armRows n 0 (armMs n l)) {i k a:Nat} (ha:a<n) {p q:Nat} (hp:(armMs n l)[i]? = some p) (hq:(armMs n l)[k]? = some q) (hki:k<i):EqA t i k a↔p.testBit a=true∧q.testBit a=true:=by
 unfold EqA
 rw [htr,armRows_get,armRows_get,hp,hq]
 simp only [Option.map_some,Option.some.injEq,armRow,armV_get ha,Nat.zero_add,api_Value.mk.injEq,true_and,and_true]
 have h0:k=0→q.testBit a=true:=fun h=>by
  subst h
  unfold armMs at hq
  rw [List.getElem?_cons_zero,Option.some.injEq] at hq
  rw [← hq,pow_bit,decide_eq_true_iff];exact ha
 by_cases h1:p.testBit a=true
 ·by_cases h2:q.testBit a=true
  ·simp [h1,h2]
  ·have:k≠0:=fun h=>h2 (h0 h)
   rw [if_pos h1,if_neg h2]
   constructor
   ·intro h;omega
   ·rintro ⟨_,h⟩;exact absurd h h2
 ·rw [if_neg h1]
  constructor
  ·intro h
   split at h
   ·omega
   ·omega
  ·rintro ⟨h,_⟩;exact absurd h h1
theorem arm_sat {n:Nat} {l:List api_FD} {t:api_Table} (hn:n≤10) (hf:FdIn n l) (ht:TV t) (htr:t.Rows=armRows n 0 (armMs n l)) {x y:Nat} (hx:x<2^n) (hy:y<2^n):SatP t x y↔subN y (cloN l x):=by
 have hp:=pow16 (n:=n) (by omega)
 rw [sat_iff ht (by omega) (by omega)]
 have hlen:t.Rows.length=(armMs n l).length:=by rw [htr,armRows_len]
 have hc:=clo_CloP hf (by omega) hx
 constructor
 ·intro h a ha
  false_or_by_contra
  rename_i hna
  have hna:(cloN l x).testBit a=false:=by simpa using hna
  have han:=lt_iff.1 hy a ha
  obtain ⟨m,m1,m2,m3⟩:=irr_ex han hc hna
  obtain ⟨j,hj⟩:=List.getElem?_of_mem ((armMs_mem hn).2 m1)
  have hj1:(armMs n l)[j+1]? = some m:=by unfold armMs;rw [List.getElem?_cons_succ];exact hj
  have hj0:(armMs n l)[0]? = some (2^n-1):=rfl
  have hlt:j+1<(armMs n l).length:=(List.getElem?_eq_some_iff.1 hj1).1
  have:=h (j+1) 0 (by omega) (by omega) (fun b hb=>by
   have hbn:=lt_iff.1 hx b hb
   rw [arm_eqA htr hbn hj1 hj0 (by omega)]
   exact ⟨m2 b (cloN_up b hb),by rw [pow_bit,decide_eq_true_iff];exact hbn⟩) a ha
  rw [arm_eqA htr han hj1 hj0 (by omega)] at this
  rw [m3] at this;cases this.1
 ·intro h i k hi hk e a ha
  have han:=lt_iff.1 hy a ha
  have hi':i<(armMs n l).length:=by omega
  have hk':k<(armMs n l).length:=by omega
  have gi:=List.getElem?_eq_getElem hi'
  have gk:=List.getElem?_eq_getElem hk'
  have sub:∀ j (hj:j<(armMs n l).length),(∀ b,x.testBit b=true→((armMs n l)[j]'hj).testBit b=true)→((armMs n l)[j]'hj).testBit a=true:=fun j hj hb=>by
   have gm:=List.getElem_mem hj
   unfold armMs at gm
   rcases List.mem_cons.1 gm with hm | hm
   ·have:(armMs n l)[j]=2^n-1:=hm
    rw [this,pow_bit,decide_eq_true_iff];exact han
   ·have hm:(armMs n l)[j]∈(irrL n (closedL n l)).map sN:=hm
    have:=(armMs_mem hn).1 hm
    exact cloN_min hb this.1.2 a (h a ha)
  rw [arm_eqA htr han gi gk hk]
  have e':∀ b,x.testBit b=true→_:=fun b hb=>(arm_eqA htr (lt_iff.1 hx b hb) gi gk hk).1 (e b hb)
  exact ⟨sub i hi' fun b hb=>(e' b hb).1,sub k hk' fun b hb=>(e' b hb).2⟩
end Go.Own
namespace Go.Own
def impB (l:List api_FD) (a b:Int):Bool:=decide (sN b &&& cloN l (sN a)=sN b)
theorem impB_iff {l:List api_FD} {a b:Int}:impB l a b=true↔subN (sN b) (cloN l (sN a)):=by
 unfold impB;rw [decide_eq_true_iff,sub_iff];exact Iff.rfl
end Go.Own
namespace Go.Own
theorem shl64 {n:Nat} (hn:n<63):shlw .i64 1 (n:Int)=((2^n:Nat):Int):=shl1_nat (k:=.i64) (by simpa only [top] using hn)
theorem xor_bit {x a i:Nat}:(x ^^^ 2^a).testBit i=(x.testBit i != decide (a=i)):=by
 rw [Nat.testBit_xor,Nat.testBit_two_pow]
theorem subN_le {a b:Nat} (h:subN a b):a≤b:=by
 have:=sub_iff.2 h
 rw [← this];exact Nat.and_le_right
theorem xor_lt_iff {x a:Nat}:x ^^^ 2^a<x↔x.testBit a=true:=by
 have self:(x ^^^ 2^a).testBit a=!x.testBit a:=by rw [xor_bit,decide_eq_true rfl];cases x.testBit a<;>rfl
 cases h:x.testBit a with
 | true=>
  have h1:x ^^^ 2^a≤x:=subN_le fun i hi=>by
   rw [xor_bit] at hi
   by_cases hai:a=i
   ·subst hai;exact h
   ·rw [decide_eq_false hai,Bool.bne_false] at hi;exact hi
  have h2:x ^^^ 2^a≠x:=fun he=>by rw [he,h] at self;cases self
  simp;omega
 | false=>
  have h1:x≤x ^^^ 2^a:=subN_le fun i hi=>by
   rw [xor_bit]
   by_cases hai:a=i
   ·subst hai;rw [h] at hi;cases hi
   ·rw [decide_eq_false hai,Bool.bne_false];exact hi
  simp;omega
theorem xor_or {x a:Nat} (h:x.testBit a=false):x ^^^ 2^a=x ||| 2^a:=by
 refine Nat.eq_of_testBit_eq fun i=>?_
 rw [xor_bit,Nat.testBit_or,Nat.testBit_two_pow]
 by_cases hi:a=i
 ·subst hi;rw [h,decide_eq_true rfl];rfl
 ·rw [decide_eq_false hi];cases x.testBit i<;>rfl
def supB (n:Nat) (l:List api_FD) (s:Nat):Bool:=decide (cloN l s=2^n-1)
def supL (n:Nat) (l:List api_FD):List Bool:=(List.range (2^n)).map (supB n l)
theorem supL_len {n:Nat} {l:List api_FD}:(supL n l).length=2^n:=by simp [supL]
theorem supL_get {n s:Nat} {l:List api_FD} (h:s<2^n):lget (supL n l) (s:Int)=some (supB n l s):=by
 rw [lget_nat];simp [supL,h]
theorem keys_full.spec {n:Nat} (hn:n≤16):keys_full.C n ((2^n-1:Nat):Int):=by
 obtain ⟨r,h1,h2⟩:=keys_full.enter n (fun r=>r=((2^n-1:Nat):Int)) ⟨by omega,pow_full hn⟩
 rw [← h1];exact h2
theorem lset_put {α:Type} {p q:List α} {a b:α}:lset (p++a::q) ((p.length:Nat):Int) b=p++b::q:=by
 unfold lset
 rw [Int.toNat_natCast]
 simp
theorem keys_supers.spec {n:Nat} {l:List api_FD} (hn:n≤12) (hl:FdOK l) (hln:l.length<1000000000):keys_supers.C n l (supL n l):=by
 have hp:=pow16 (n:=n) (by omega)
 have hp12:2^n≤4096:=Nat.le_trans (Nat.pow_le_pow_right (n:=2) (by omega) hn) (by decide)
 obtain ⟨r,h1,h2⟩:=keys_supers.enter n l (fun r=>r=supL n l) (by
  rw [shl64 (by omega),Int.toNat_natCast]
  refine ⟨by omega,⟨by omega,by omega⟩,?_⟩
  have go:∀ (m k:Nat),k+m=2^n→keys_supers.L1 n l (((List.range k).map (supB n l))++List.replicate m false) (k:Int) (fun r=>r=supL n l):=by
   intro m
   induction m with
   | zero=>
    intro k hk
    apply keys_supers.L1_step
    rw [shl64 (by omega),Int.toNat_natCast,List.length_replicate,if_neg (by omega)]
    rw [List.replicate_zero,List.append_nil,show k=2^n by omega]
    rfl
   | succ m ih=>
    intro k hk
    apply keys_supers.L1_step
    rw [shl64 (by omega),Int.toNat_natCast,List.length_replicate,if_pos (by omega)]
    have ew:IntKind.wrap .u32 (k:Int)=((k:Nat):Int):=wrap_top (k:=.u32) (by simp only [top];omega)
    rw [ew,List.replicate_succ]
    have hlk:((List.range k).map (supB n l)).length=k:=by simp
    refine ⟨_,closure_Close.spec hl hln (show k<2^32 by omega),_,keys_full.spec (by omega),false,?_,?_⟩
    ·rw [lget_nat,List.getElem?_append_right (by omega),hlk,Nat.sub_self];rfl
    ·rw [wrap_succ (by omega)]
     have e:((((cloN l k:Nat):Int)) == ((2^n-1:Nat):Int))=supB n l k:=by
      unfold supB
      rw [Bool.eq_iff_iff,beq_iff_eq,decide_eq_true_eq];omega
     rw [e]
     have es:=lset_put (p:=(List.range k).map (supB n l)) (q:=List.replicate m false) (a:=false) (b:=supB n l k)
     rw [hlk] at es
     rw [es]
     have:=ih (k+1) (by omega)
     rw [List.range_succ,List.map_append,List.append_assoc] at this
     exact this
  exact go (2^n) 0 (by omega))
 rw [← h1];exact h2
def AntiP (n:Nat) (l:List api_FD) (s:Nat):Prop:=s<2^n∧cloN l s≠2^n-1∧∀ a,a<n→s.testBit a=false→cloN l (s ||| 2^a)=2^n-1
theorem or_small {n s a:Nat} (hs:s<2^n) (ha:a<n):s ||| 2^a<2^n:=Nat.or_lt_two_pow hs (Nat.pow_lt_pow_right (by omega) ha)
namespace keys_extreme
theorem inner {n:Nat} {l:List api_FD} (hn:n≤12) {s:Nat} (hs:s<2^n) {out:List Int} {φ:List Int→Prop}:∀ (m k:Nat) (ok:Bool),k+m=n→(∀ b:Bool,(b=true→ok=true∧∀ a,k≤a→a<n→s.testBit a=false→cloN l (s ||| 2^a)=2^n-1)→L5 n (supL n l) false out s b s φ)→L2 n (supL n l) false out s ok k s φ
 | 0,k,ok,hk,h=>by
  apply L2_step
  rw [if_neg (by omega)]
  exact h ok fun hb=>⟨hb,fun a h1 h2=>by omega⟩
 | m+1,k,ok,hk,h=>by
  have hp12:2^n≤4096:=Nat.le_trans (Nat.pow_le_pow_right (n:=2) (by omega) hn) (by decide)
  have next:∀ ok':Bool,(ok'=true→ok=true∧(s.testBit k=false→cloN l (s ||| 2^k)=2^n-1))→L3 n (supL n l) false out s ok' k s φ:=fun ok' hok=>by
   apply L3_step
   rw [wrap_succ (by omega)]
   refine inner hn hs m (k+1) ok' (by omega) fun b hb=>h b fun hbt=>?_
   obtain ⟨h1,h2⟩:=hb hbt
   obtain ⟨h3,h4⟩:=hok h1
   refine ⟨h3,fun a ha han hbit=>?_⟩
   by_cases hak:a=k
   ·subst hak;exact h4 hbit
   ·exact h2 a (by omega) han hbit
  apply L2_step
  rw [if_pos (by omega)]
  cases ok with
  | false=>
   rw [if_neg Bool.false_ne_true]
   exact h false fun hb=>by cases hb
  | true=>
   rw [if_pos rfl]
   refine ⟨by omega,?_⟩
   have hk2:2^k<2^n:=Nat.pow_lt_pow_right (by omega) (by omega)
   have e:bXor .i64 (s:Int) (shlw .i64 1 (k:Int))=((s ^^^ 2^k:Nat):Int):=by
    rw [shl64 (by omega)]
    exact bXor_nat (k:=.i64) (by simp only [top];omega) (by simp only [top];omega)
   rw [e]
   cases hb:s.testBit k with
   | true=>
    have:decide (((s ^^^ 2^k:Nat):Int)<(s:Int))=true:=decide_eq_true (by have:=xor_lt_iff.2 hb;omega)
    rw [this,if_neg (by decide)]
    exact next true fun _=>⟨rfl,fun h=>by rw [hb] at h;cases h⟩
   | false=>
    have:decide (((s ^^^ 2^k:Nat):Int)<(s:Int))=false:=decide_eq_false (by
     intro h
     have:=xor_lt_iff.1 (show s ^^^ 2^k<s by omega)
     rw [hb] at this;cases this)
    rw [this,if_pos rfl,xor_or hb]
    refine ⟨_,supL_get (or_small hs (by omega)),?_⟩
    cases hq:supB n l (s ||| 2^k) with
    | true=>
     rw [if_neg (by decide)]
     exact next true fun _=>⟨rfl,fun _=>of_decide_eq_true hq⟩
    | false=>
     rw [if_pos rfl]
     exact next false fun h=>by cases h
theorem loop {n:Nat} {l:List api_FD} (hn:n≤12) {φ:List Int→Prop}:∀ (m k:Nat) (out:List Int),k+m=2^n→out.length≤k→(∀ y∈out,∃ s:Nat,y=s∧AntiP n l s)→(∀ r:List Int,r.length≤4096→(∀ y∈r,∃ s:Nat,y=s∧AntiP n l s)→φ r)→L1 n (supL n l) false out k φ
 | 0,k,out,hk,ho,hm,h=>by
  have hp12:2^n≤4096:=Nat.le_trans (Nat.pow_le_pow_right (n:=2) (by omega) hn) (by decide)
  apply L1_step
  rw [supL_len,if_neg (by omega)]
  have hu:AllU out:=fun y hy=>by
   obtain ⟨s,rfl,hs⟩:=hm y hy
   exact U32.of (Nat.lt_of_lt_of_le hs.1 (by omega))
  refine ⟨_,attrset_Order.spec (by omega) hu,h _ ?_ fun y hy=>hm y ((ordL_mem hu y).1 hy)⟩
  have:=ordL_len (l:=out)
  omega
 | m+1,k,out,hk,ho,hm,h=>by
  have hp12:2^n≤4096:=Nat.le_trans (Nat.pow_le_pow_right (n:=2) (by omega) hn) (by decide)
  have hkn:k<2^n:=by omega
  have next:∀ out':List Int,out'.length≤k+1→(∀ y∈out',∃ s:Nat,y=s∧AntiP n l s)→L4 n (supL n l) false out' k φ:=fun out' h1 h2=>by
   apply L4_step
   rw [wrap_succ (by omega)]
   exact loop hn m (k+1) out' (by omega) h1 h2 h
  apply L1_step
  rw [supL_len,if_pos (by omega)]
  refine ⟨_,supL_get hkn,?_⟩
  refine inner hn hkn n 0 _ (by omega) fun b hb=>?_
  apply L5_step
  cases b with
  | false=>rw [if_neg Bool.false_ne_true];exact next out (by omega) hm
  | true=>
   rw [if_pos rfl]
   obtain ⟨h1,h2⟩:=hb rfl
   have ew:IntKind.wrap .u32 (k:Int)=((k:Nat):Int):=wrap_top (k:=.u32) (by simp only [top];omega)
   rw [ew]
   refine ⟨by omega,next _ (by rw [List.length_append];simp only [List.length_cons,List.length_nil];omega) fun y hy=>?_⟩
   rcases List.mem_append.1 hy with hy | hy
   ·exact hm y hy
   ·refine ⟨k,List.mem_singleton.1 hy,hkn,?_,fun a ha hbit=>h2 a (Nat.zero_le a) ha hbit⟩
    have:supB n l k=false:=by
     cases hq:supB n l k with
     | false=>rfl
     | true=>rw [hq] at h1;cases h1
    exact of_decide_eq_false this
theorem spec {n:Nat} {l:List api_FD} (hn:n≤12):∃ r:List Int,C n (supL n l) false r∧r.length≤4096∧∀ y∈r,∃ s:Nat,y=s∧AntiP n l s:=by
 obtain ⟨r,h1,h2⟩:=enter n (supL n l) false (fun r=>r.length≤4096∧∀ y∈r,∃ s:Nat,y=s∧AntiP n l s) (loop hn (2^n) 0 [] (by omega) (Nat.le_refl 0) (fun y hy=>by cases hy) fun r h1 h2=>⟨h1,h2⟩)
 exact ⟨r,h2,h1⟩
end keys_extreme
theorem keys_Anti.spec {n:Nat} {l:List api_FD} (hn:n≤12) (hl:FdOK l) (hln:l.length<1000000000) (h0:fdsE (n:Int) l=0):∃ r:List Int,keys_Anti.C n l (r,0)∧r.length≤4096∧∀ y∈r,∃ s:Nat,y=s∧AntiP n l s:=by
 obtain ⟨q,g1,g2,g3⟩:=keys_extreme.spec (l:=l) hn
 obtain ⟨r,h1,h2⟩:=keys_Anti.enter n l (fun r=>r=(q,0)) (by
  refine ⟨_,closure_Valid.spec hl,?_⟩
  rw [if_pos h0,if_neg (by omega)]
  exact ⟨_,keys_supers.spec hn hl hln,_,g1,rfl⟩)
 exact ⟨q,by rw [← h1];exact h2,g2,g3⟩
theorem anti_irr {n:Nat} {l:List api_FD} (hn:n≤16) (hf:FdIn n l) {s:Nat} (h:AntiP n l s):cloN l s=s∧IrrP n l s:=by
 obtain ⟨h1,h2,h3⟩:=h
 have hr:=hf.r32 hn
 have p32:2^n<2^32:=Nat.pow_lt_pow_right (by omega) (by omega)
 have hc:=clo_CloP hf hn h1
 have full:∀ x,x<2^n→subN (2^n-1) x→x=2^n-1:=fun x hx hs=>subN_anti (fun i hi=>by
  rw [pow_bit]
  refine decide_eq_true ?_
  false_or_by_contra
  rename_i hge
  rw [Nat.testBit_lt_two_pow (Nat.lt_of_lt_of_le hx (Nat.pow_le_pow_right (by omega) (by omega)))] at hi
  cases hi) hs
 have bit_n:∀ {x i:Nat},x<2^n→x.testBit i=true→i<n:=fun {x i} hx hi=>by
  false_or_by_contra
  rename_i hge
  rw [Nat.testBit_lt_two_pow (Nat.lt_of_lt_of_le hx (Nat.pow_le_pow_right (by omega) (by omega)))] at hi
  cases hi
 have big:∀ c,CloP n l c→subN s c→∀ i,c.testBit i=true→s.testBit i=false→c=2^n-1:=fun c hcc hsc i hi hsi=>by
  have hin:=bit_n hcc.1 hi
  have e:=h3 i hin hsi
  refine full c hcc.1 ?_
  rw [← e]
  refine cloN_min (fun j hj=>?_) hcc.2
  rw [Nat.testBit_or,Nat.testBit_two_pow,Bool.or_eq_true] at hj
  rcases hj with hj | hj
  ·exact hsc j hj
  ·rw [← of_decide_eq_true hj];exact hi
 have hclo:cloN l s=s:=by
  refine subN_anti (fun i hi=>?_) cloN_up
  cases hs:s.testBit i with
  | true=>rfl
  | false=>exact absurd (big _ hc cloN_up i hi hs) h2
 refine ⟨hclo,⟨h1,by have:=hc.2;rwa [hclo] at this⟩,?_⟩
 have hne:s≠2^n-1:=fun h=>h2 (by rw [hclo];exact h)
 obtain ⟨a,ha,hsa⟩:∃ a,a<n∧s.testBit a=false:=by
  false_or_by_contra
  rename_i hno
  refine hne (full s h1 fun i hi=>?_)
  rw [pow_bit] at hi
  cases hb:s.testBit i with
  | true=>rfl
  | false=>exact absurd ⟨i,of_decide_eq_true hi,hb⟩ hno
 refine ⟨a,ha,hsa,fun c hcc hsc hne2=>?_⟩
 obtain ⟨i,hi,hsi⟩:∃ i,c.testBit i=true∧s.testBit i=false:=by
  false_or_by_contra
  rename_i hno
  refine hne2 (subN_anti (fun i hi=>?_) hsc)
  cases hb:s.testBit i with
  | true=>rfl
  | false=>exact absurd ⟨i,hi,hb⟩ hno
 rw [big c hcc hsc i hi hsi,pow_bit]
 exact decide_eq_true ha
end Go.Own
namespace Go.Own
def abcL:List ByteArray:=[⟨#[97]⟩,⟨#[98]⟩,⟨#[99]⟩,⟨#[100]⟩,⟨#[101]⟩,⟨#[102]⟩,⟨#[103]⟩,⟨#[104]⟩,⟨#[105]⟩,⟨#[106]⟩]
def armT (n:Nat) (l:List api_FD):api_Table:={ Name:=⟨#[116]⟩,Attrs:=abcL.take n,Rows:=armRows n 0 (armMs n l) }
def armF (n:Int) (l:List api_FD):api_Table×Int:=if (irrF n l).2=0 then (armT n.toNat l,0) else ({ Name:=⟨#[]⟩,Attrs:=[],Rows:=[] },(irrF n l).2)
theorem armRows_snoc {n m:Nat}:∀ {ms:List Nat} {k:Nat},armRows n k (ms++[m])=armRows n k ms++[armRow n (k+ms.length) m]
 | [],k=>by simp [armRows]
 | x::r,k=>by
  simp only [List.cons_append,armRows,List.length_cons]
  rw [armRows_snoc,show k+1+r.length=k+(r.length+1) by omega]
theorem abc_enc:∀ i:Fin 10,Utf8.encode (IntKind.wrap .i32 (IntKind.wrap .i64 (97+(i.val:Int))))=(abcL[i.val]?).getD ⟨#[]⟩:=by decide +kernel
theorem abc_take {k:Nat} (h:k<10):abcL.take (k+1)=abcL.take k++[Utf8.encode (IntKind.wrap .i32 (IntKind.wrap .i64 (97+(k:Int))))]:=by
 have e:=abc_enc ⟨k,h⟩
 simp only at e
 rw [e,List.take_add_one]
 have:k<abcL.length:=h
 rw [List.getElem?_eq_getElem this];rfl
theorem armV_succ {n k m:Nat}:armV (n+1) k m=armV n k m++[{ Kind:=1,Num:=if m.testBit n=true then 0 else (k:Int),Str:=⟨#[]⟩ }]:=by
 unfold armV
 rw [List.range_succ,List.map_append];rfl
theorem armV_len {n k m:Nat}:(armV n k m).length=n:=by simp [armV]
theorem irrF_n {n:Int} {l:List api_FD} (h:(irrF n l).2=0):errA n l=0∧irrF n l=(irrL n.toNat (closedL n.toNat l),0):=by
 unfold irrF at h ⊢
 split
 ·rename_i h0;exact ⟨h0,rfl⟩
 ·rename_i h0;rw [if_neg h0] at h;exact absurd h h0
theorem irrL_all {n:Nat} {l:List api_FD} (hn:n≤10):AllU (irrL n (closedL n l)):=fun y hy=>closedL_all hn y (List.mem_filter.1 hy).1
namespace armstrong_Build
theorem cells {n:Nat} {ats:List ByteArray} {rows:List api_Row} {k m:Nat} {l:List Int} {φ:api_Table×Int→Prop} (hn:n≤10) (hm:m<2^32) (hk:k≤2000) (hr:rows.length≤2000)
  (h:L2 n ats (rows++[armRow n k m]) l (l.length:Int) ((k+1:Nat):Int) φ):∀ (d i:Nat),d+i=n→L3 n ats rows k m ((k+1:Nat):Int) (armV i k m) l (l.length:Int) k i φ
 | 0,i,hd=>by
  have:i=n:=by omega
  subst this
  apply L3_step
  rw [if_neg (by omega),wrap_succ (by omega)]
  exact ⟨by omega,h⟩
 | d+1,i,hd=>by
  have next:=cells hn hm hk hr h d (i+1) (by omega)
  rw [armV_succ] at next
  apply L3_step
  rw [if_pos (by omega)]
  refine ⟨by omega,?_⟩
  by_cases hb:m.testBit i=true
  ·rw [if_pos hb] at next
   rw [if_neg (fun h=>by rw [bit_eq0 (k:=.u32) (by simpa [top] using hm) (by decide)] at h;rw [hb] at h;cases h)]
   apply L4_step
   rw [wrap_succ (by omega)]
   exact ⟨by rw [armV_len];omega,next⟩
  ·rw [if_neg hb] at next
   rw [if_pos ((bit_eq0 (k:=.u32) (by simpa [top] using hm) (by decide)).2 (by simpa using hb))]
   apply L4_step
   rw [wrap_succ (by omega)]
   exact ⟨by rw [armV_len];omega,next⟩
theorem rows {n:Nat} {ats:List ByteArray} {l:List Int} (hn:n≤10) (hl:AllU l) (hlen:l.length≤1100):∀ (r:List Int) (k:Nat),l.drop k=r→k≤l.length→L2 n ats (armRows n 0 ((l.take k).map sN)) l (l.length:Int) k (fun r=>r=({ Name:=⟨#[116]⟩,Attrs:=ats,Rows:=armRows n 0 (l.map sN) },0))
 | [],k,hd,hk=>by
  have:=drop_ge hd
  apply L2_step
  rw [if_neg (by omega),List.take_of_length_le (by omega)]
 | s::r,k,hd,hk=>by
  have hlt:=drop_lt hd
  have hs:=hl s (List.mem_of_getElem? (drop_get hd))
  apply L2_step
  rw [if_pos (by omega)]
  refine ⟨s,lget_drop hd,?_⟩
  have next:=rows (ats:=ats) hn hl hlen r (k+1) (drop_next hd) (by omega)
  rw [List.take_add_one,drop_get hd,Option.toList_some,List.map_append,List.map_cons,List.map_nil,armRows_snoc,List.length_map,List.length_take,Nat.min_eq_left (by omega),Nat.zero_add] at next
  rw [wrap_succ (by omega)]
  have:=cells (ats:=ats) (rows:=armRows n 0 ((l.take k).map sN)) hn hs.lt (k:=k) (by omega) (by rw [armRows_len,List.length_map,List.length_take];omega) next n 0 (by omega)
  rw [← hs.eq] at this
  exact this
theorem spec {n : Int} {l : List api_FD} (hl : FdOK l) (hn : l.length < 1000000000) : C n l (armF n l) := by
  obtain ⟨r, h1, h2⟩ := enter n l (fun r => r = armF n l) (by
    refine ⟨_, armstrong_Irreducible.spec hl hn, ?_⟩
    unfold armF
    split
    · rename_i h0
      obtain ⟨h0, e⟩ := irrF_n h0
      obtain ⟨g1, g2, g3⟩ := errA_n h0
      have hil := irrF_len (n := n) (l := l)
      obtain ⟨m, rfl⟩ : ∃ m : Nat, n = m := ⟨n.toNat, by omega⟩
      rw [Int.toNat_natCast] at e ⊢
      have hu := irrL_all (n := m) (l := l) (by omega)
      have hp := pow16 (n := m) (by omega)
      have fin : L1 m (irrF m l) (abcL.take m) m (fun r => r = (armT m l, 0)) := by
        apply L1_step
        rw [if_neg (by omega)]
        refine ⟨_, armstrong_full.spec (by omega), by rw [List.length_singleton]; omega, ?_⟩
        have := rows (n := m) (ats := abcL.take m) (l := [((2 ^ m - 1 : Nat) : Int)] ++ (irrF m l).1) (by omega) (fun y hy => by
          rcases List.mem_append.1 hy with hy | hy
          · rw [List.mem_singleton.1 hy]; exact U32.of (by omega)
          · rw [e] at hy; exact hu y hy) (by rw [List.length_append, List.length_singleton]; omega) _ 0 rfl (Nat.zero_le _)
        have et : (([((2 ^ m - 1 : Nat) : Int)] ++ (irrF m l).1).map sN) = armMs m l := by
          rw [e, List.map_append, List.map_cons, List.map_nil, sN_nat]; rfl
        rw [et] at this
        exact this
      have : ∀ (d i : Nat), d + i = m → L1 m (irrF m l) (abcL.take i) i (fun r => r = (armT m l, 0)) := by
        intro d
        induction d with
        | zero => intro i hd; have : i = m := by omega
                  subst this; exact fin
        | succ d ih =>
          intro i hd
          have next := ih (i + 1) (by omega)
          rw [abc_take (by omega)] at next
          apply L1_step
          rw [if_pos (by omega), wrap_succ (by omega)]
          exact ⟨by rw [List.length_take]; omega, next⟩
      exact this m 0 (by omega)
    · rfl)
  rw [← h1]; exact h2
end armstrong_Build
end Go.Own
namespace Go.Own
end Go.Own
namespace Go.Own
end Go.Own
namespace Go.Own
theorem closure_Implies.spec {l:List api_FD} (hl:FdOK l) (hn:l.length<1000000000) {d:api_FD} (ha:U32 d.Lhs) (hb:U32 d.Rhs):closure_Implies.C l d (impB l d.Lhs d.Rhs):=by
 have hc:=closure_Close.spec hl hn ha.lt
 rw [← ha.eq] at hc
 have hcl:cloN l (sN d.Lhs)<2^32:=cloN_lt (fun d hd=>(hl d hd).2.lt) ha.lt
 obtain ⟨r,h1,h2⟩:=closure_Implies.enter l d (fun r=>r=impB l d.Lhs d.Rhs) ⟨_,hc,by
  refine Bool.eq_iff_iff.2 ?_
  rw [beq_iff_eq,andNot_zero hb hcl]
  unfold impB;rw [decide_eq_true_iff]⟩
 rw [← h1];exact h2
end Go.Own
