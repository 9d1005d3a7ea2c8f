/- What the functions that the law reaches answer. No conditions. -/
import Derived.Test.YtjiphhbagdangabGreatDoorArmstrongLeastLaw4
import Derived.Test.YtjiphhbagdangabGreatDoorArmstrongLeastLaw9
import Derived.Test.YtjiphhbagdangabGreatDoorArmstrongLeastLaw10
import Derived.Test.YtjiphhbagdangabGreatDoorArmstrongLeastLaw6
import Derived.Test.YtjiphhbagdangabGreatDoorArmstrongLeastLaw1
import Derived.Test.YtjiphhbagdangabGreatDoorBase2
import Derived.Test.YtjiphhbagdangabGreatDoorOwn25
set_option linter.all false
namespace Go.Own
def ltS (x y:Int):Bool:=decide (keyS x<keyS y)
theorem ltS_swo:Go.Sort.SWO ltS where
 irrefl:=fun x=>by unfold ltS;simp
 trans:=fun x y z h1 h2=>by unfold ltS at *;simp only [decide_eq_true_eq] at *;omega
 ntrans:=fun x y z h1 h2=>by unfold ltS at *;simp only [decide_eq_false_iff_not] at *;omega
theorem cmp_Compare_int.spec {x y:Int}:cmp_Compare_int.C x y (cmpI x y):=by
 obtain ⟨f1,g1,k1⟩:=cmp_isNaN_int.enter x (fun r=>r=false) (by simp)
 obtain ⟨f2,g2,k2⟩:=cmp_isNaN_int.enter y (fun r=>r=false) (by simp)
 subst g1 g2
 obtain ⟨r,h1,h2⟩:=cmp_Compare_int.enter x y (fun r=>r=cmpI x y) (by
  refine ⟨_,k1,_,k2,?_⟩
  rw [if_neg (by decide),if_neg (by decide)]
  unfold cmpI
  split
  ·rfl
  ·split<;>rfl)
 rw [← h1];exact h2
theorem cmp_Compare_api_Set.spec {x y:Int}:cmp_Compare_api_Set.C x y (cmpI x y):=by
 obtain ⟨f1,g1,k1⟩:=cmp_isNaN_api_Set.enter x (fun r=>r=false) (by simp)
 obtain ⟨f2,g2,k2⟩:=cmp_isNaN_api_Set.enter y (fun r=>r=false) (by simp)
 subst g1 g2
 obtain ⟨r,h1,h2⟩:=cmp_Compare_api_Set.enter x y (fun r=>r=cmpI x y) (by
  refine ⟨_,k1,_,k2,?_⟩
  rw [if_neg (by decide),if_neg (by decide)]
  unfold cmpI
  split
  ·rfl
  ·split<;>rfl)
 rw [← h1];exact h2
theorem cmp_Or_int.two {a b:Int}:cmp_Or_int.C [a,b] (if a=0 then b else a):=by
 obtain ⟨r,h1,h2⟩:=cmp_Or_int.enter [a,b] (fun r=>r=if a=0 then b else a) (by
  apply cmp_Or_int.L1_step
  rw [if_pos (by simp)]
  refine ⟨a,rfl,?_⟩
  by_cases ha:a=0
  ·rw [if_pos ha]
   apply cmp_Or_int.L1_step
   have e:IntKind.wrap .i64 ((0:Int)+1)=1:=by decide
   rw [e,if_pos (by simp)]
   refine ⟨b,rfl,?_⟩
   by_cases hb:b=0
   ·rw [if_pos hb]
    apply cmp_Or_int.L1_step
    have e:IntKind.wrap .i64 ((1:Int)+1)=2:=by decide
    rw [e,if_neg (by simp),if_pos ha,hb]
   ·rw [if_neg hb,if_pos ha]
  ·rw [if_neg ha,if_neg ha])
 rw [← h1];exact h2
theorem cmpS_ok:CmpOK U32 ltS attrset_compare.C:=fun x y hx hy=>by
 obtain ⟨r,h1,h2⟩:=attrset_compare.enter x y (fun r=>r<0↔ltS x y=true) (by
  refine ⟨_,attrset_Size.spec hx,_,attrset_Size.spec hy,_,cmp_Compare_int.spec,_,cmp_Compare_api_Set.spec,_,cmp_Or_int.two,?_⟩
  unfold ltS
  rw [decide_eq_true_eq,keyS_lt hx hy]
  have ex:=hx.eq
  have ey:=hy.eq
  unfold cmpI
  generalize szN (sN x)=s at *
  generalize szN (sN y)=t at *
  by_cases h1:(s:Int)<t
  ·rw [if_pos h1,if_neg (by decide)];omega
  ·rw [if_neg h1]
   by_cases h2:(t:Int)<s
   ·rw [if_pos h2,if_neg (by decide)];omega
   ·rw [if_neg h2,if_pos rfl]
    split
    ·omega
    ·split<;>omega)
 exact ⟨r,h2,h1⟩
end Go.Own
namespace Go.Own
theorem compactL_snoc:∀ (l:List Int) (a b:Int),compactL (l++[a]++[b])=if a=b then compactL (l++[a]) else compactL (l++[a])++[b]
 | [],a,b=>by
  simp only [List.nil_append,List.singleton_append,compactL]
  split<;>simp_all
 | [c],a,b=>by
  simp only [List.singleton_append,List.cons_append,List.nil_append,compactL]
  split<;>split<;>simp_all
 | c::d::r,a,b=>by
  have ih:=compactL_snoc (d::r) a b
  simp only [List.cons_append,compactL] at ih ⊢
  rw [ih]
  split<;>split<;>simp
theorem take_snoc {l:List Int} {m:Nat} {a:Int} (h:l[m]? = some a):l.take (m+1)=l.take m++[a]:=by
 rw [List.take_add_one,h];rfl
theorem compact_step {l:List Int} {m:Nat} {a b:Int} (ha:l[m]? = some a) (hb:l[m+1]? = some b):compactL (l.take (m+2))=if a=b then compactL (l.take (m+1)) else compactL (l.take (m+1))++[b]:=by
 have e1:l.take (m+2)=l.take m++[a]++[b]:=by rw [take_snoc (m:=m+1) hb,take_snoc ha]
 rw [e1,take_snoc ha,compactL_snoc]
namespace slices_Compact_sapi_Set_api_Set
theorem inner {l:List Int} {o:Nat} {φ:List Int×Bool→Prop} (ho:1≤o) (hol:o<l.length) (hl:l.length<4611686018427387904) (h:∀ b,φ (compactL l,b)) (n:Nat):∀ (s:List Int) (k k2:Nat),l.length-o-k2≤n→1≤k2→o+k2≤l.length→s.length=l.length→k≤o+k2-1→s.take k=compactL (l.take (o+k2))→(∀ i,o+k2-1≤i→s[i]? = l[i]?)→L2 s k o (l.length-o) k2 φ:=by
 have hend:∀ (s:List Int) (k k2:Nat),o+k2=l.length→s.length=l.length→k≤o+k2-1→s.take k=compactL (l.take (o+k2))→L2 s k o (l.length-o) k2 φ:=fun s k k2 hk2 hs hk ht=>by
  apply L2_step
  refine ⟨by omega,?_⟩
  rw [if_neg (by rw [List.length_take,List.length_drop];omega)]
  refine ⟨by omega,⟨by omega,by omega⟩,by omega,by omega,by omega,by omega,⟨by omega,by omega,by omega⟩,?_⟩
  rw [Int.toNat_natCast]
  have e:s.take k=compactL l:=by rw [ht,List.take_of_length_le (by omega)]
  rw [e]
  exact h _
 induction n with
 | zero=>intro s k k2 hn h1 hk2 hs hk ht hd;exact hend s k k2 (by omega) hs hk ht
 | succ n ih=>
  intro s k k2 hn h1 hk2 hs hk ht hd
  by_cases hlt:o+k2<l.length
  ·apply L2_step
   refine ⟨by omega,?_⟩
   rw [if_pos (by rw [List.length_take,List.length_drop];omega)]
   obtain ⟨b,hb⟩:∃ b,l[o+k2]? = some b:=⟨_,List.getElem?_eq_getElem hlt⟩
   obtain ⟨a,ha⟩:∃ a,l[o+k2-1]? = some a:=⟨_,List.getElem?_eq_getElem (by omega)⟩
   have e1:(o:Int)+(k2:Int)=((o+k2:Nat):Int):=by omega
   have e2:IntKind.wrap .i64 ((k2:Int)-1)=((k2-1:Nat):Int):=wx _ _ (by omega) (by omega)
   have e3:(o:Int)+((k2-1:Nat):Int)=((o+k2-1:Nat):Int):=by omega
   have e4:IntKind.wrap .i64 ((k2:Int)+1)=((k2+1:Nat):Int):=wx _ _ (by omega) (by omega)
   have e5:IntKind.wrap .i64 ((k:Int)+1)=((k+1:Nat):Int):=wx _ _ (by omega) (by omega)
   rw [e1,e2,e3]
   have hstep:=compact_step (l:=l) (m:=o+k2-1) ha (by rw [show o+k2-1+1=o+k2 by omega];exact hb)
   rw [show o+k2-1+2=o+(k2+1) by omega,show o+k2-1+1=o+k2 by omega] at hstep
   refine ⟨b,by rw [lget_nat,hd _ (by omega)];exact hb,⟨by omega,by omega⟩,by omega,a,by rw [lget_nat,hd _ (by omega)];exact ha,⟨by omega,by omega⟩,by omega,?_⟩
   by_cases hab:b=a
   ·rw [if_pos hab]
    apply L3_step
    rw [e4]
    rw [if_pos hab.symm] at hstep
    exact ih s k (k2+1) (by omega) (by omega) (by omega) hs (by omega) (by rw [ht,hstep]) (fun i hi=>hd i (by omega))
   ·rw [if_neg hab]
    rw [if_neg (fun h=>hab h.symm)] at hstep
    obtain ⟨c,hc⟩:∃ c,s[k]? = some c:=⟨_,List.getElem?_eq_getElem (by omega)⟩
    refine ⟨⟨by omega,by omega⟩,by omega,c,by rw [lget_nat];exact hc,?_⟩
    apply L3_step
    rw [e4,e5]
    have hls:lset s (k:Int) b=s.set k b:=by unfold lset;rw [Int.toNat_natCast]
    rw [hls]
    refine ih (s.set k b) (k+1) (k2+1) (by omega) (by omega) (by omega) (by rw [List.length_set];exact hs) (by omega) ?_ (fun i hi=>?_)
    ·rw [hstep,← ht,take_snoc (a:=b) (by rw [List.getElem?_set_self (by omega)])]
     congr 1
     rw [List.take_set_of_le (Nat.le_refl k)]
    ·rw [List.getElem?_set_ne (by omega)]
     exact hd i (by omega)
  ·exact hend s k k2 (by omega) hs hk ht
theorem outer {l:List Int} {φ:List Int×Bool→Prop} (hl:l.length<4611686018427387904) (h:∀ b,φ (compactL l,b)) (n:Nat):∀ i,l.length-i≤n→1≤i→i≤l.length→compactL (l.take i)=l.take i→L1 l i φ:=by
 induction n with
 | zero=>
  intro i hn h1 hi hc
  apply L1_step
  rw [if_neg (by omega)]
  have e:i=l.length:=by omega
  rw [e,List.take_length] at hc
  have:=h true
  rwa [hc] at this
 | succ n ih=>
  intro i hn h1 hi hc
  by_cases hlt:i<l.length
  ·apply L1_step
   rw [if_pos (by omega)]
   obtain ⟨b,hb⟩:∃ b,l[i]? = some b:=⟨_,List.getElem?_eq_getElem hlt⟩
   obtain ⟨a,ha⟩:∃ a,l[i-1]? = some a:=⟨_,List.getElem?_eq_getElem (by omega)⟩
   have e2:IntKind.wrap .i64 ((i:Int)-1)=((i-1:Nat):Int):=wx _ _ (by omega) (by omega)
   have e4:IntKind.wrap .i64 ((i:Int)+1)=((i+1:Nat):Int):=wx _ _ (by omega) (by omega)
   rw [e2,e4]
   have hstep:=compact_step (l:=l) (m:=i-1) ha (by rw [show i-1+1=i by omega];exact hb)
   rw [show i-1+2=i+1 by omega,show i-1+1=i by omega] at hstep
   refine ⟨b,by rw [lget_nat];exact hb,a,by rw [lget_nat];exact ha,?_⟩
   by_cases hab:b=a
   ·rw [if_pos hab]
    rw [if_pos hab.symm] at hstep
    refine ⟨by omega,⟨by omega,by omega⟩,?_⟩
    rw [Int.toNat_natCast]
    exact inner (o:=i) h1 hlt hl h (l.length-i-1) l i 1 (Nat.le_refl _) (Nat.le_refl _) (by omega) rfl (by omega) (by rw [hstep,hc]) (fun _ _=>rfl)
   ·rw [if_neg hab]
    rw [if_neg (fun h=>hab h.symm)] at hstep
    exact ih (i+1) (by omega) (by omega) (by omega) (by rw [hstep,hc,take_snoc hb])
  ·apply L1_step
   rw [if_neg (by omega)]
   have e:i=l.length:=by omega
   rw [e,List.take_length] at hc
   have:=h true
   rwa [hc] at this
theorem spec {l:List Int} (hl:l.length<4611686018427387904):∃ b,C l (compactL l,b):=by
 obtain ⟨r,⟨b,rfl⟩,h2⟩:=enter l (fun r=>∃ b,r=(compactL l,b)) (by
  split
  ·rename_i h
   refine ⟨true,?_⟩
   match l,h with
   | [],_=>rfl
   | [a],_=>rfl
   | _::_::_,h=>simp at h;omega
  ·rename_i h
   have:1≤l.length:=by omega
   exact outer hl (fun b=>⟨b,rfl⟩) (l.length-1) 1 (by omega) (by omega) this (by
    obtain ⟨a,r,rfl⟩:∃ a r,l=a::r:=by cases l with
     | nil=>simp at this
     | cons a r=>exact ⟨a,r,rfl⟩
    rfl))
 exact ⟨b,h2⟩
end slices_Compact_sapi_Set_api_Set
end Go.Own
namespace Go.Own
theorem attrset_Order.spec {l:List Int} (hl:l.length≤35184372088832) (hu:AllU l):attrset_Order.C l (ordL l):=by
 obtain ⟨r,h1,h2⟩:=attrset_Order.enter l (fun r=>r=ordL l) (by
  obtain ⟨s,c,hp,ha⟩:=slices_SortFunc_sapi_Set_api_Set_attrset_compare.spec cmpS_ok ltS_swo (l:=l) (by omega) hu
  have hlen:=hp.length_eq
  obtain ⟨b,c2⟩:=slices_Compact_sapi_Set_api_Set.spec (l:=s) (by omega)
  refine ⟨by omega,s,c,_,c2,?_⟩
  have hus:AllU s:=fun x hx=>hu x (hp.mem_iff.1 hx)
  refine ordL_eq hu (compactL_asc hus (ha.imp fun h=>?_)) fun y=>by rw [compactL_mem,hp.mem_iff]
  unfold ltS at h
  simp only [decide_eq_false_iff_not] at h
  omega)
 rw [← h1];exact h2
end Go.Own
namespace Go.Own
def subL (s:Nat):List Int:=(bsL 32 s).map fun (n:Nat)=>(n:Int)
theorem subL_mem {s:Nat} (hs:s<2^32) {y:Int}:y∈subL s↔∃ n:Nat,y=n∧n &&& s=n:=by
 unfold subL
 rw [List.mem_map]
 constructor
 ·rintro ⟨n,hn,rfl⟩;exact ⟨n,rfl,(bsL_mem hs n).1 hn⟩
 ·rintro ⟨n,rfl,hn⟩;exact ⟨n,(bsL_mem hs n).2 hn,rfl⟩
theorem subL_all {s:Nat} (hs:s<2^32):AllU (subL s):=fun y hy=>by
 obtain ⟨n,rfl,hn⟩:=(subL_mem hs).1 hy
 have:=sub_le hn
 exact U32.of (by omega)
def subsF (s:Nat):List Int:=if 12<szN s then [] else ordL (subL s)
theorem ordL_nodup_len {l:List Int} (hu:AllU l) (hn:l.Nodup):(ordL l).length=l.length:=by
 have h1:(ordL l).Nodup:=(ordL_asc hu).imp fun {a b} h=>fun e=>by subst e;omega
 exact ((List.perm_ext_iff_of_nodup h1 hn).2 fun y=>ordL_mem hu y).length_eq
theorem subs_count {s:Nat} (hs:s<2^32):(ordL (subL s)).length=2^szN s:=by
 rw [ordL_nodup_len (subL_all hs)]
 ·unfold subL
  rw [List.length_map,bsL_len];rfl
 ·unfold subL
  have h1:(bsL 32 s).Nodup:=bsL_asc.imp fun {a b} h=>by omega
  exact List.Pairwise.map _ (fun a b h=>by omega) h1
theorem attrset_Subsets.loop {s:Nat} (hs:s<2^32) {φ:List Int→Prop} (h:φ (ordL (subL s))) (n:Nat):∀ (x:Nat) (out:List Int),x≤n→x &&& s=x→out.length+x≤s+1→(∀ y,y∈out↔∃ m:Nat,y=m∧m &&& s=m∧x≤m)→attrset_Subsets.L1 s out x φ:=by
 induction n with
 | zero=>
  intro x out hx hsub hl hm
  have:x=0:=by omega
  subst this
  apply attrset_Subsets.L1_step
  rw [if_pos (by omega)]
  have hmem:∀ y,y∈out↔y∈subL s:=fun y=>by
   rw [hm,subL_mem hs]
   constructor
   ·rintro ⟨m,a,b,_⟩;exact ⟨m,a,b⟩
   ·rintro ⟨m,a,b⟩;exact ⟨m,a,b,Nat.zero_le _⟩
  have hu:AllU out:=fun y hy=>subL_all hs y ((hmem y).1 hy)
  refine ⟨_,attrset_Order.spec (by omega) hu,?_⟩
  rw [ordL_congr (subL_all hs) hmem];exact h
 | succ n ih=>
  intro x out hx hsub hl hm
  by_cases h0:x=0
  ·exact ih x out (by omega) hsub hl hm
  ·apply attrset_Subsets.L1_step
   rw [if_neg (by omega)]
   refine ⟨by omega,?_⟩
   have hxs:=sub_le hsub
   have e1:IntKind.wrap .u32 ((x:Int)-1)=((x-1:Nat):Int):=by
    rw [show (x:Int)-1=((x-1:Nat):Int) by omega]
    exact wrap_top (k:=.u32) (by simp only [top];omega)
   rw [e1,bAnd_nat (k:=.u32) (by simp only [top];omega) (by simpa [top] using hs)]
   have hp:(x-1) &&& s≤x-1:=Nat.and_le_left
   refine ih _ _ (by omega) (by rw [Nat.and_assoc,Nat.and_self]) (by rw [List.length_append,List.length_singleton];omega) fun y=>?_
   rw [List.mem_append,hm,List.mem_singleton]
   constructor
   ·rintro (⟨m,a,b,c⟩ | rfl)
    ·exact ⟨m,a,b,by omega⟩
    ·exact ⟨_,rfl,by rw [Nat.and_assoc,Nat.and_self],Nat.le_refl _⟩
   ·rintro ⟨m,rfl,b,c⟩
    rcases Nat.lt_or_ge m x with h1 | h1
    ·right
     have:=pred_sub x s m hsub (by omega) b h1
     have:m=(x-1) &&& s:=by omega
     rw [this]
    ·exact .inl ⟨m,rfl,b,h1⟩
theorem attrset_Subsets.spec {s:Nat} (hs:s<2^32):attrset_Subsets.C s (subsF s):=by
 obtain ⟨r,h1,h2⟩:=attrset_Subsets.enter s (fun r=>r=subsF s) (by
  have hz:=attrset_Size.spec (x:=(s:Int)) (U32.of hs)
  rw [sN_nat] at hz
  refine ⟨_,hz,?_⟩
  unfold subsF
  by_cases h12:12<szN s
  ·rw [if_pos (by omega),if_pos h12]
  ·rw [if_neg (by omega),if_neg h12]
   refine attrset_Subsets.loop (φ:=fun r=>r=ordL (subL s)) hs (Eq.refl _) s s [(s:Int)] (Nat.le_refl s) (Nat.and_self s) (by rw [List.length_singleton];omega) fun y=>?_
   rw [List.mem_singleton]
   constructor
   ·rintro rfl;exact ⟨s,rfl,Nat.and_self s,Nat.le_refl _⟩
   ·rintro ⟨m,rfl,b,c⟩
    have:=sub_le b
    have:m=s:=by omega
    rw [this])
 rw [← h1];exact h2
end Go.Own
namespace Go.Own
theorem szN_full16:∀ n:Nat,n≤16→szN (2^n-1)=n:=by
 intro n hn
 have:∀ i:Fin 17,szN (2^i.val-1)=i.val:=by decide +kernel
 exact this ⟨n,by omega⟩
theorem sub_pow {m n:Nat}:m &&& (2^n-1)=m↔m<2^n:=by
 rw [Nat.and_two_pow_sub_one_eq_mod]
 constructor
 ·intro h
  rw [← h];exact Nat.mod_lt _ (Nat.pow_pos (by omega))
 ·exact Nat.mod_eq_of_lt
def rngL (n:Nat):List Int:=(List.range (2^n)).map fun (m:Nat)=>(m:Int)
theorem rngL_mem {n:Nat} {y:Int}:y∈rngL n↔∃ m:Nat,y=m∧m<2^n:=by
 unfold rngL
 rw [List.mem_map]
 constructor
 ·rintro ⟨m,hm,rfl⟩;exact ⟨m,rfl,List.mem_range.1 hm⟩
 ·rintro ⟨m,rfl,hm⟩;exact ⟨m,List.mem_range.2 hm,rfl⟩
theorem pow16 {n:Nat} (hn:n≤16):2^n≤65536∧0<2^n:=⟨Nat.pow_le_pow_right (n:=2) (by omega) hn,Nat.pow_pos (by omega)⟩
theorem rngL_all {n:Nat} (hn:n≤16):AllU (rngL n):=fun y hy=>by
 obtain ⟨m,rfl,hm⟩:=rngL_mem.1 hy
 have:=pow16 hn
 exact U32.of (by omega)
theorem subs_full {n:Nat} (hn:n≤12):subsF (2^n-1)=ordL (subL (2^n-1)):=by
 unfold subsF
 rw [if_neg (by rw [szN_full16 n (by omega)];omega)]
theorem subs_mem {n:Nat} (hn:n≤12) {y:Int}:y∈subsF (2^n-1)↔∃ m:Nat,y=m∧m<2^n:=by
 have hp:=pow16 (n:=n) (by omega)
 have hs:2^n-1<2^32:=by omega
 rw [subs_full hn,ordL_mem (subL_all hs),subL_mem hs]
 constructor
 ·rintro ⟨m,rfl,h⟩;exact ⟨m,rfl,sub_pow.1 h⟩
 ·rintro ⟨m,rfl,h⟩;exact ⟨m,rfl,sub_pow.2 h⟩
theorem subs_all {n:Nat} (hn:n≤12):AllU (subsF (2^n-1)):=fun y hy=>by
 obtain ⟨m,rfl,hm⟩:=(subs_mem hn).1 hy
 have:=pow16 (n:=n) (by omega)
 exact U32.of (by omega)
theorem subs_asc {n:Nat} (hn:n≤12):Asc (subsF (2^n-1)):=by
 have hp:=pow16 (n:=n) (by omega)
 rw [subs_full hn]
 exact ordL_asc (subL_all (by omega))
theorem subs_len {n:Nat} (hn:n≤12):(subsF (2^n-1)).length=2^n:=by
 have hp:=pow16 (n:=n) (by omega)
 rw [subs_full hn,subs_count (by omega),szN_full16 n (by omega)]
end Go.Own
namespace Go.Own
theorem passN_cons (d:api_FD) (l:List api_FD) (s:Nat):passN (d::l) s=passN l (if sN d.Lhs &&& s=sN d.Lhs then s ||| sN d.Rhs else s):=rfl
theorem andNot_zero {a:Int} {s:Nat} (ha:U32 a) (hs:s<2^32):bAndNot .u32 a s=0↔sN a &&& s=sN a:=by
 have e:bAndNot .u32 a s=((ndiff (sN a) s:Nat):Int):=by
  conv=>lhs;rw [ha.eq]
  exact bAndNot_nat ha.top (by simpa [top] using hs)
 rw [e,sub_iff,← ndiff_zero];omega
theorem or_nat {a:Int} {s:Nat} (ha:U32 a) (hs:s<2^32):bOr .u32 s a=((s ||| sN a:Nat):Int):=by
 conv=>lhs;rw [ha.eq]
 exact bOr_nat (by simpa [top] using hs) ha.top
theorem sub_spec {a:Int} {s:Nat} (ha:U32 a) (hs:s<2^32):drossref02_Sub.C a s (decide (sN a &&& s=sN a)):=by
 have:=drossref02_Sub.spec (a:=sN a) (b:=s) ha.lt hs
 rw [← ha.eq] at this;exact this
namespace closure_Close
theorem pass {l:List api_FD} (hl:FdOK l) (hn:l.length<1000000000) {b:Int} {φ:Int→Prop}:∀ (r:List api_FD) (k s:Nat),l.drop k=r→s<2^32→(if ((passN r s:Nat):Int)=b then φ ((passN r s:Nat):Int) else L1 l ((passN r s:Nat):Int) φ)→L2 l s b k φ:=by
 intro r
 induction r with
 | nil=>
  intro k s hd hs h
  have:=drop_ge hd
  apply L2_step
  rw [if_neg (by omega)]
  exact h
 | cons d r ih=>
  intro k s hd hs h
  have hlt:=drop_lt hd
  have hd':=hl d (List.mem_of_getElem? (drop_get hd))
  apply L2_step
  rw [if_pos (by omega)]
  refine ⟨d,lget_drop hd,?_⟩
  rw [passN_cons] at h
  by_cases hz:sN d.Lhs &&& s=sN d.Lhs
  ·rw [if_pos ((andNot_zero hd'.1 hs).2 hz),or_nat hd'.2 hs]
   rw [if_pos hz] at h
   apply L3_step
   rw [wrap_succ (by omega)]
   exact ih (k+1) _ (drop_next hd) (Nat.or_lt_two_pow hs hd'.2.lt) h
  ·rw [if_neg (fun hh=>hz ((andNot_zero hd'.1 hs).1 hh))]
   rw [if_neg hz] at h
   apply L3_step
   rw [wrap_succ (by omega)]
   exact ih (k+1) s (drop_next hd) hs h
theorem loop {l:List api_FD} (hl:FdOK l) (hn:l.length<1000000000) {φ:Int→Prop}:∀ (k s:Nat),s<2^32→33≤k+szN s→φ ((passK l k s:Nat):Int)→L1 l s φ
 | 0,s,hs,hk,h=>by have:=bitsOf_len (n:=s);unfold szN at hk;omega
 | k+1,s,hs,hk,h=>by
  have hr:∀ d∈l,sN d.Rhs<2^32:=fun d hd=>(hl d hd).2.lt
  apply L1_step
  refine pass hl hn l 0 s rfl hs ?_
  rw [passK] at h
  by_cases hz:passN l s=s
  ·rw [if_pos (by rw [hz]),hz]
   rw [hz,passK_fix hz] at h
   exact h
  ·rw [if_neg (by omega)]
   have:=szN_lt (passN_up (l:=l)) (Ne.symm hz) (passN_lt hs hr)
   exact loop hl hn k _ (passN_lt hs hr) (by omega) h
theorem spec {l:List api_FD} (hl:FdOK l) (hn:l.length<1000000000) {s:Nat} (hs:s<2^32):C l s ((cloN l s:Nat):Int):=by
 obtain ⟨r,h1,h2⟩:=enter l s (fun r=>r=((cloN l s:Nat):Int)) (loop hl hn 33 s hs (by omega) rfl)
 rw [← h1];exact h2
end closure_Close
namespace drossref09_Close
theorem pass {l:List api_FD} (hl:FdOK l) (hn:l.length<1000000000) {b:Int} {φ:Int→Prop}:∀ (r:List api_FD) (k s:Nat),l.drop k=r→s<2^32→(if ((passN r s:Nat):Int)=b then φ ((passN r s:Nat):Int) else L1 l ((passN r s:Nat):Int) φ)→L2 l s b k φ:=by
 intro r
 induction r with
 | nil=>
  intro k s hd hs h
  have:=drop_ge hd
  apply L2_step
  rw [if_neg (by omega)]
  exact h
 | cons d r ih=>
  intro k s hd hs h
  have hlt:=drop_lt hd
  have hd':=hl d (List.mem_of_getElem? (drop_get hd))
  apply L2_step
  rw [if_pos (by omega)]
  refine ⟨d,lget_drop hd,_,sub_spec hd'.1 hs,?_⟩
  rw [passN_cons] at h
  by_cases hz:sN d.Lhs &&& s=sN d.Lhs
  ·rw [if_pos (decide_eq_true hz),or_nat hd'.2 hs]
   rw [if_pos hz] at h
   apply L3_step
   rw [wrap_succ (by omega)]
   exact ih (k+1) _ (drop_next hd) (Nat.or_lt_two_pow hs hd'.2.lt) h
  ·rw [if_neg (by rw [decide_eq_false hz];decide)]
   rw [if_neg hz] at h
   apply L3_step
   rw [wrap_succ (by omega)]
   exact ih (k+1) s (drop_next hd) hs h
theorem loop {l:List api_FD} (hl:FdOK l) (hn:l.length<1000000000) {φ:Int→Prop}:∀ (k s:Nat),s<2^32→33≤k+szN s→φ ((passK l k s:Nat):Int)→L1 l s φ
 | 0,s,hs,hk,h=>by have:=bitsOf_len (n:=s);unfold szN at hk;omega
 | k+1,s,hs,hk,h=>by
  have hr:∀ d∈l,sN d.Rhs<2^32:=fun d hd=>(hl d hd).2.lt
  apply L1_step
  refine pass hl hn l 0 s rfl hs ?_
  rw [passK] at h
  by_cases hz:passN l s=s
  ·rw [if_pos (by rw [hz]),hz]
   rw [hz,passK_fix hz] at h
   exact h
  ·rw [if_neg (by omega)]
   have:=szN_lt (passN_up (l:=l)) (Ne.symm hz) (passN_lt hs hr)
   exact loop hl hn k _ (passN_lt hs hr) (by omega) h
theorem spec {l:List api_FD} (hl:FdOK l) (hn:l.length<1000000000) {s:Nat} (hs:s<2^32):C l s ((cloN l s:Nat):Int):=by
 obtain ⟨r,h1,h2⟩:=enter l s (fun r=>r=((cloN l s:Nat):Int)) (loop hl hn 33 s hs (by omega) rfl)
 rw [← h1];exact h2
end drossref09_Close
def cloB (l:List api_FD) (s:Nat):Bool:=l.all fun d=>!decide (sN d.Lhs &&& s=sN d.Lhs) || decide (sN d.Rhs &&& s=sN d.Rhs)
theorem cloB_iff {l:List api_FD} {s:Nat}:cloB l s=true↔IsClo l s:=by
 unfold cloB IsClo
 rw [List.all_eq_true]
 constructor
 ·intro h d hd hs
  have:=h d hd
  rw [decide_eq_true (sub_iff.2 hs),Bool.not_true,Bool.false_or,decide_eq_true_iff] at this
  exact sub_iff.1 this
 ·intro h d hd
  by_cases hs:sN d.Lhs &&& s=sN d.Lhs
  ·rw [decide_eq_true hs,decide_eq_true (sub_iff.2 (h d hd (sub_iff.1 hs)))];rfl
  ·rw [decide_eq_false hs];rfl
theorem closure_enlarges.spec {l:List api_FD} (hl:FdOK l) (hn:l.length<1000000000) {s:Nat} (hs:s<2^32):∃ r,closure_enlarges.C l s r∧(r<0↔cloB l s=true):=by
 obtain ⟨r,h1,h2⟩:=closure_enlarges.enter l s (fun r=>(r<0↔cloB l s=true)) (by
  have:∀ (r:List api_FD) (k:Nat),l.drop k=r→(cloB r s=cloB l s)→closure_enlarges.L1 l s k (fun r=>(r<0↔cloB l s=true)):=by
   intro r
   induction r with
   | nil=>
    intro k hd he
    have:=drop_ge hd
    apply closure_enlarges.L1_step
    rw [if_neg (by omega),← he]
    simp [cloB]
   | cons d r ih=>
    intro k hd he
    have hlt:=drop_lt hd
    have hd':=hl d (List.mem_of_getElem? (drop_get hd))
    have ec:cloB (d::r) s=((!decide (sN d.Lhs &&& s=sN d.Lhs) || decide (sN d.Rhs &&& s=sN d.Rhs))&&cloB r s):=rfl
    rw [ec] at he
    have next:cloB r s=cloB l s→closure_enlarges.L2 l s k (fun r=>(r<0↔cloB l s=true)):=fun h=>by
     apply closure_enlarges.L2_step
     rw [wrap_succ (by omega)]
     exact ih (k+1) (drop_next hd) h
    apply closure_enlarges.L1_step
    rw [if_pos (by omega)]
    refine ⟨d,lget_drop hd,?_⟩
    by_cases h1:sN d.Lhs &&& s=sN d.Lhs
    ·rw [if_pos ((andNot_zero hd'.1 hs).2 h1)]
     by_cases h2:sN d.Rhs &&& s=sN d.Rhs
     ·rw [if_pos ((andNot_zero hd'.2 hs).2 h2)]
      exact next (by rw [← he,decide_eq_true h1,decide_eq_true h2];rfl)
     ·rw [if_neg (fun hh=>h2 ((andNot_zero hd'.2 hs).1 hh)),← he,decide_eq_true h1,decide_eq_false h2]
      simp
    ·rw [if_neg (fun hh=>h1 ((andNot_zero hd'.1 hs).1 hh))]
     exact next (by rw [← he,decide_eq_false h1];rfl)
  exact this l 0 rfl rfl)
 exact ⟨r,h2,h1⟩
def closedL (n:Nat) (l:List api_FD):List Int:=(subsF (2^n-1)).filter fun y=>cloB l (sN y)
def closedE (n:Int) (l:List api_FD):List Int×Int:=if n<0∨16<n then ([],7) else if 12<n then ([],3) else if fdsE n l=0 then (closedL n.toNat l,0) else ([],fdsE n l)
theorem pow_full {n:Nat} (hn:n≤16):IntKind.wrap .u32 (shlw .u32 1 (n:Int)-1)=((2^n-1:Nat):Int):=by
 have hp:=pow16 hn
 have e:shlw .u32 1 (n:Int)=((2^n:Nat):Int):=shl1_nat (k:=.u32) (by simp only [top];omega)
 rw [e,show (((2^n:Nat):Int)-1)=((2^n-1:Nat):Int) by omega]
 exact wrap_top (k:=.u32) (by simp only [top];omega)
theorem closure_Closed.spec {n:Int} {l:List api_FD} (hl:FdOK l) (hn:l.length<1000000000):closure_Closed.C n l (closedE n l):=by
 obtain ⟨r,h1,h2⟩:=closure_Closed.enter n l (fun r=>r=closedE n l) (by
  unfold closedE
  by_cases a:n<0
  ·rw [if_pos a,if_pos (.inl a)]
  rw [if_neg a]
  by_cases b:16<n
  ·rw [if_pos b,if_pos (.inr b)]
  rw [if_neg b,if_neg (show ¬(n<0∨16<n) by omega)]
  by_cases c:12<n
  ·rw [if_pos c,if_pos c]
  rw [if_neg c,if_neg c]
  refine ⟨_,closure_Valid.spec hl,?_⟩
  split
  ·obtain ⟨m,rfl⟩:∃ m:Nat,n=m:=⟨n.toNat,by omega⟩
   have hp:=pow16 (n:=m) (by omega)
   rw [pow_full (by omega),Int.toNat_natCast]
   refine ⟨by omega,_,attrset_Subsets.spec (by omega),?_⟩
   unfold closedL
   have hu:=subs_all (n:=m) (by omega)
   have hlen:=subs_len (n:=m) (by omega)
   generalize subsF (2^m-1)=q at *
   have:∀ (r:List Int) (k:Nat) (out:List Int),q.drop k=r→out.length≤k→out++(r.filter fun y=>cloB l (sN y))=(q.filter fun y=>cloB l (sN y))→closure_Closed.L1 l out q k (fun r=>r=(q.filter fun y=>cloB l (sN y),0)):=by
    intro r
    induction r with
    | nil=>
     intro k out hd hk he
     have:=drop_ge hd
     apply closure_Closed.L1_step
     rw [if_neg (by omega),← he]
     simp
    | cons y r ih=>
     intro k out hd hk he
     have hlt:=drop_lt hd
     have hy:=hu y (List.mem_of_getElem? (drop_get hd))
     apply closure_Closed.L1_step
     rw [if_pos (by omega)]
     obtain ⟨e,e1,e2⟩:=closure_enlarges.spec hl hn hy.lt
     rw [← hy.eq] at e1
     refine ⟨y,lget_drop hd,e,e1,?_⟩
     by_cases hc:cloB l (sN y)=true
     ·rw [if_pos (e2.2 hc)]
      refine ⟨by omega,?_⟩
      apply closure_Closed.L2_step
      rw [wrap_succ (by omega)]
      refine ih (k+1) _ (drop_next hd) (by rw [List.length_append,List.length_singleton];omega) ?_
      rw [← he,List.filter_cons_of_pos (p:=fun y=>cloB l (sN y)) hc];simp
     ·rw [if_neg (fun h=>hc (e2.1 h))]
      apply closure_Closed.L2_step
      rw [wrap_succ (by omega)]
      refine ih (k+1) _ (drop_next hd) (by omega) ?_
      rw [← he,List.filter_cons_of_neg (p:=fun y=>cloB l (sN y)) hc]
   exact this q 0 [] rfl (Nat.le_refl _) rfl
  ·rfl)
 rw [← h1];exact h2
theorem full_small {n:Nat} (hn:n≤16):fullN n=2^n-1:=by unfold fullN;rw [Nat.min_eq_left (by omega)]
end Go.Own
namespace Go.Own
def errA (n:Int) (l:List api_FD):Int:=if fdsE n l=0 then (if 10<n then 3 else 0) else fdsE n l
theorem armstrong_check.spec {n:Int} {l:List api_FD} (hl:FdOK l):armstrong_check.C n l (errA n l):=by
 obtain ⟨r,h1,h2⟩:=armstrong_check.enter n l (fun r=>r=errA n l) (by
  refine ⟨_,closure_Valid.spec hl,?_⟩
  unfold errA
  split
  ·split<;>rfl
  ·rfl)
 rw [← h1];exact h2
theorem drossref19_Error.spec {n:Int} {l:List api_FD} (hl:FdOK l):drossref19_Error.C n l (errA n l):=by
 obtain ⟨r,h1,h2⟩:=drossref19_Error.enter n l (fun r=>r=errA n l) (by
  refine ⟨_,drossref09_Valid.spec hl,?_⟩
  unfold errA
  split
  ·split<;>rfl
  ·rfl)
 rw [← h1];exact h2
theorem errA_n {n:Int} {l:List api_FD} (h:errA n l=0):0≤n∧n≤10∧fdsE n l=0:=by
 unfold errA at h
 split at h
 ·rename_i h0
  have:=fdsE_n h0
  split at h
  ·cases h
  ·exact ⟨by omega,by omega,h0⟩
 ·rename_i h0;exact absurd h h0
theorem closedE_ok {n:Int} {l:List api_FD} (h:errA n l=0):closedE n l=(closedL n.toNat l,0):=by
 obtain ⟨h1,h2,h3⟩:=errA_n h
 unfold closedE
 rw [if_neg (by omega),if_neg (by omega),if_pos h3]
theorem armstrong_full.spec {n:Nat} (hn:n≤16):armstrong_full.C n ((2^n-1:Nat):Int):=by
 obtain ⟨r,h1,h2⟩:=armstrong_full.enter n (fun r=>r=((2^n-1:Nat):Int)) ⟨by omega,pow_full hn⟩
 rw [← h1];exact h2
theorem full_spec {n:Nat} (hn:n≤16):drossref02_Full.C n ((2^n-1:Nat):Int):=by
 rw [← full_small hn];exact drossref02_Full.spec
def meetS (s m c:Int):Int:=if c=s then m else if sN s &&& sN c=sN s then bAnd .u32 m c else m
def meetF (s:Int) (m:Int):List Int→Int
 | []=>m
 | c::r=>meetF s (meetS s m c) r
def irrB (n:Nat) (cl:List Int) (s:Int):Bool:=if s=((2^n-1:Nat):Int) then false else if meetF s ((2^n-1:Nat):Int) cl=s then false else true
def irrL (n:Nat) (cl:List Int):List Int:=cl.filter (irrB n cl)
def irrF (n:Int) (l:List api_FD):List Int×Int:=if errA n l=0 then (irrL n.toNat (closedL n.toNat l),0) else ([],errA n l)
theorem and_sub {c s:Int} (hc:U32 c) (hs:U32 s):bAnd .u32 c s=s↔sN s &&& sN c=sN s:=by
 have e:bAnd .u32 c s=((sN c &&& sN s:Nat):Int):=by
  conv=>lhs;rw [hc.eq,hs.eq]
  exact bAnd_nat hc.top hs.top
 have es:=hs.eq
 rw [e,Nat.and_comm]
 omega
theorem closedL_len {n:Nat} {l:List api_FD} (hn:n≤10):(closedL n l).length≤1024:=by
 unfold closedL
 refine Nat.le_trans (List.length_filter_le _ _) ?_
 rw [subs_len (by omega)]
 exact Nat.pow_le_pow_right (n:=2) (by omega) hn
theorem closedL_all {n:Nat} {l:List api_FD} (hn:n≤10):AllU (closedL n l):=fun y hy=>subs_all (by omega) y (List.mem_filter.1 hy).1
namespace armstrong_Irreducible
theorem inner {n:Nat} {cl:List Int} {e:Int} {out:List Int} {i:Nat} {s:Int} {φ:List Int×Int→Prop} (hn:n≤10) (hu:AllU cl) (hl:cl.length≤1024) (hs:U32 s) (ho:out.length≤1024) (hi:i≤1024)
  (h:L1 n (cl,e) (if irrB n cl s=true then out++[s] else out) ((i+1:Nat):Int) φ):∀ (r:List Int) (k:Nat) (m:Int),cl.drop k=r→meetF s m r=meetF s ((2^n-1:Nat):Int) cl→L2 n (cl,e) out s m i k φ:=by
 intro r
 induction r with
 | nil=>
  intro k m hd he
  have:=drop_ge hd
  have he:m=meetF s ((2^n-1:Nat):Int) cl:=he
  have skip:irrB n cl s=false→L4 n (cl,e) out i φ:=fun hb=>by
   apply L4_step
   rw [wrap_succ (by omega)]
   rw [if_neg (by rw [hb];decide)] at h;exact h
  apply L2_step
  rw [if_neg (by show ¬ ((k:Int)<(cl.length:Int));omega)]
  refine ⟨_,armstrong_full.spec (by omega),?_⟩
  by_cases h1:s=((2^n-1:Nat):Int)
  ·rw [if_pos h1]
   exact skip (by unfold irrB;rw [if_pos h1])
  ·rw [if_neg h1]
   by_cases h2:m=s
   ·rw [if_pos h2]
    exact skip (by unfold irrB;rw [if_neg h1,if_pos (by rw [← he];exact h2)])
   ·rw [if_neg h2]
    have hb:irrB n cl s=true:=by unfold irrB;rw [if_neg h1,if_neg (by rw [← he];exact h2)]
    refine ⟨by omega,?_⟩
    apply L4_step
    rw [wrap_succ (by omega)]
    rw [if_pos hb] at h;exact h
 | cons c r ih=>
  intro k m hd he
  have hlt:=drop_lt hd
  have hc:=hu c (List.mem_of_getElem? (drop_get hd))
  have next:L3 n (cl,e) out s (meetS s m c) i k φ:=by
   apply L3_step
   rw [wrap_succ (by omega)]
   exact ih (k+1) _ (drop_next hd) he
  apply L2_step
  rw [if_pos (by show (k:Int)<(cl.length:Int);omega)]
  refine ⟨c,lget_drop hd,?_⟩
  unfold meetS at next
  by_cases h1:c=s
  ·rw [if_pos h1] at next ⊢;exact next
  ·rw [if_neg h1] at next ⊢
   by_cases h2:sN s &&& sN c=sN s
   ·rw [if_pos h2] at next
    rw [if_pos ((and_sub hc hs).2 h2)];exact next
   ·rw [if_neg h2] at next
    rw [if_neg (fun hh=>h2 ((and_sub hc hs).1 hh))];exact next
theorem spec {n:Int} {l:List api_FD} (hl:FdOK l) (hn:l.length<1000000000):C n l (irrF n l):=by
 obtain ⟨r,h1,h2⟩:=enter n l (fun r=>r=irrF n l) (by
  refine ⟨_,armstrong_check.spec hl,?_⟩
  unfold irrF
  split
  ·rename_i h0
   obtain ⟨g1,g2,g3⟩:=errA_n h0
   have hc:=closure_Closed.spec (n:=n) hl hn
   rw [closedE_ok h0] at hc
   refine ⟨_,hc,?_⟩
   rw [if_pos rfl]
   obtain ⟨m,rfl⟩:∃ m:Nat,n=m:=⟨n.toNat,by omega⟩
   rw [Int.toNat_natCast]
   have hu:=closedL_all (n:=m) (l:=l) (by omega)
   have hlen:=closedL_len (n:=m) (l:=l) (by omega)
   generalize closedL m l=cl at *
   unfold irrL
   have:∀ (r:List Int) (k:Nat) (out:List Int),cl.drop k=r→k≤cl.length→out.length≤k→out++r.filter (irrB m cl)=cl.filter (irrB m cl)→L1 m (cl,0) out k (fun r=>r=(cl.filter (irrB m cl),0)):=by
    intro r
    induction r with
    | nil=>
     intro k out hd hk ho he
     have:=drop_ge hd
     apply L1_step
     rw [if_neg (by show ¬ ((k:Int)<(cl.length:Int));omega),← he]
     simp
    | cons s r ih=>
     intro k out hd hk ho he
     have hlt:=drop_lt hd
     have hs:=hu s (List.mem_of_getElem? (drop_get hd))
     apply L1_step
     rw [if_pos (by show (k:Int)<(cl.length:Int);omega)]
     refine ⟨s,lget_drop hd,_,armstrong_full.spec (by omega),?_⟩
     refine inner (by omega) hu hlen hs (by omega) (by omega) ?_ cl 0 _ rfl rfl
     refine ih (k+1) _ (drop_next hd) (by omega) ?_ ?_
     ·split
      ·rw [List.length_append,List.length_singleton];omega
      ·omega
     ·rw [← he]
      by_cases hb:irrB m cl s=true
      ·rw [if_pos hb,List.filter_cons_of_pos hb];simp
      ·rw [if_neg hb,List.filter_cons_of_neg hb]
   exact this cl 0 [] rfl (Nat.zero_le _) (Nat.le_refl _) rfl
  ·rfl)
 rw [← h1];exact h2
end armstrong_Irreducible
def triI (r:Nat):Int:=Int.tdiv ((r:Int)*((r:Int)-1)) 2
def lstGo (m:Nat):Nat→Nat→Nat
 | 0,r=>r
 | f+1,r=>if triI r<(m:Int) then lstGo m f (r+1) else r
def lstF (n:Int) (l:List api_FD):Int×Int:=if (irrF n l).2=0 then (((lstGo (irrF n l).1.length 100 0:Nat):Int),0) else (0,(irrF n l).2)
theorem tri_wrap {r:Nat} (h:r≤100):IntKind.wrap .i64 (Int.tdiv (IntKind.wrap .i64 ((r:Int)*(IntKind.wrap .i64 ((r:Int)-1)))) 2)=triI r:=by
 have:∀ i:Fin 101,IntKind.wrap .i64 (Int.tdiv (IntKind.wrap .i64 ((i.val:Int)*(IntKind.wrap .i64 ((i.val:Int)-1)))) 2)=triI i.val:=by decide +kernel
 exact this ⟨r,by omega⟩
theorem tri_loop {m:Nat} (hm:m≤1024) {L:Int→Prop} {φ:Int×Int→Prop} (step:∀ r:Nat,r≤100→(if triI r<(m:Int) then L ((r+1:Nat):Int) else φ ((r:Int),0))→L r):∀ (f r:Nat),r+f=100→φ (((lstGo m f r:Nat):Int),0)→L r
 | 0,r,h,hp=>by
  have:r=100:=by omega
  subst this
  refine step 100 (by omega) ?_
  have e:triI 100=4950:=by decide +kernel
  rw [e,if_neg (by omega)]
  exact hp
 | f+1,r,h,hp=>by
  refine step r (by omega) ?_
  rw [lstGo] at hp
  by_cases hc:triI r<(m:Int)
  ·rw [if_pos hc] at hp ⊢
   exact tri_loop hm step f (r+1) (by omega) hp
  ·rw [if_neg hc] at hp ⊢
   exact hp
theorem irrF_len {n:Int} {l:List api_FD}:(irrF n l).1.length≤1024:=by
 unfold irrF
 split
 ·rename_i h0
  obtain ⟨g1,g2,g3⟩:=errA_n h0
  exact Nat.le_trans (List.length_filter_le _ _) (closedL_len (by omega))
 ·simp
theorem armstrong_Least.spec {n:Int} {l:List api_FD} (hl:FdOK l) (hn:l.length<1000000000):armstrong_Least.C n l (lstF n l):=by
 obtain ⟨r,h1,h2⟩:=armstrong_Least.enter n l (fun r=>r=lstF n l) (by
  refine ⟨_,armstrong_Irreducible.spec hl hn,?_⟩
  unfold lstF
  split
  ·refine tri_loop (m:=(irrF n l).1.length) irrF_len (L:=fun i=>armstrong_Least.L1 (irrF n l) i _) (φ:=fun r=>r=(((lstGo (irrF n l).1.length 100 0:Nat):Int),0)) ?_ 100 0 rfl rfl
   intro r hr h
   apply armstrong_Least.L1_step
   rw [tri_wrap hr,wrap_succ (by omega)]
   exact h
  ·rfl)
 rw [← h1];exact h2
end Go.Own
namespace Go.Own
def CloP (n:Nat) (l:List api_FD) (m:Nat):Prop:=m<2^n∧IsClo l m
theorem closedL_mem {n:Nat} {l:List api_FD} (hn:n≤12) {y:Int}:y∈closedL n l↔∃ m:Nat,y=m∧CloP n l m:=by
 unfold closedL CloP
 rw [List.mem_filter,subs_mem hn]
 constructor
 ·rintro ⟨⟨m,rfl,hm⟩,h⟩
  rw [sN_nat] at h
  exact ⟨m,rfl,hm,cloB_iff.1 h⟩
 ·rintro ⟨m,rfl,hm,h⟩
  exact ⟨⟨m,rfl,hm⟩,by rw [sN_nat];exact cloB_iff.2 h⟩
theorem meetF_spec {s:Int}:∀ {cl:List Int} {m:Int},AllU cl→U32 m→U32 (meetF s m cl)∧∀ i,(sN (meetF s m cl)).testBit i=true↔(sN m).testBit i=true∧∀ c∈cl,c≠s→subN (sN s) (sN c)→(sN c).testBit i=true
 | [],m,_,hm=>⟨hm,fun i=>by simp [meetF]⟩
 | c::r,m,hu,hm=>by
  have hc:=hu c (by simp)
  have hu':AllU r:=fun y hy=>hu y (by simp [hy])
  have e:bAnd .u32 m c=((sN m &&& sN c:Nat):Int):=by
   conv=>lhs;rw [hm.eq,hc.eq]
   exact bAnd_nat hm.top hc.top
  simp only [meetF,meetS]
  by_cases h1:c=s
  ·rw [if_pos h1]
   obtain ⟨a,b⟩:=meetF_spec (s:=s) hu' hm
   refine ⟨a,fun i=>?_⟩
   rw [b]
   simp only [List.forall_mem_cons,h1]
   constructor
   ·rintro ⟨q1,q3⟩;exact ⟨q1,fun h=>absurd rfl h,q3⟩
   ·rintro ⟨q1,_,q3⟩;exact ⟨q1,q3⟩
  ·rw [if_neg h1]
   by_cases h2:sN s &&& sN c=sN s
   ·rw [if_pos h2]
    have hU:U32 (bAnd .u32 m c):=by
     rw [e];exact U32.of (Nat.lt_of_le_of_lt Nat.and_le_left hm.lt)
    obtain ⟨a,b⟩:=meetF_spec (s:=s) hu' hU
    refine ⟨a,fun i=>?_⟩
    rw [b,e,sN_nat,Nat.testBit_and]
    simp only [List.forall_mem_cons,Bool.and_eq_true]
    constructor
    ·rintro ⟨⟨q1,q2⟩,q3⟩;exact ⟨q1,fun _ _=>q2,q3⟩
    ·rintro ⟨q1,q2,q3⟩;exact ⟨⟨q1,q2 h1 (sub_iff.1 h2)⟩,q3⟩
   ·rw [if_neg h2]
    obtain ⟨a,b⟩:=meetF_spec (s:=s) hu' hm
    refine ⟨a,fun i=>?_⟩
    rw [b]
    simp only [List.forall_mem_cons]
    constructor
    ·rintro ⟨q1,q3⟩;exact ⟨q1,fun _ h=>absurd (sub_iff.2 h) h2,q3⟩
    ·rintro ⟨q1,_,q3⟩;exact ⟨q1,q3⟩
def meetT (s m c:Int):Int:=if sN s &&& sN c=sN s then bAnd .u32 m c else m
def meetG (s:Int) (m:Int):List Int→Int
 | []=>m
 | c::r=>meetG s (meetT s m c) r
theorem meetG_spec {s:Int}:∀ {cl:List Int} {m:Int},AllU cl→U32 m→U32 (meetG s m cl)∧∀ i,(sN (meetG s m cl)).testBit i=true↔(sN m).testBit i=true∧∀ c∈cl,subN (sN s) (sN c)→(sN c).testBit i=true
 | [],m,_,hm=>⟨hm,fun i=>by simp [meetG]⟩
 | c::r,m,hu,hm=>by
  have hc:=hu c (by simp)
  have hu':AllU r:=fun y hy=>hu y (by simp [hy])
  have e:bAnd .u32 m c=((sN m &&& sN c:Nat):Int):=by
   conv=>lhs;rw [hm.eq,hc.eq]
   exact bAnd_nat hm.top hc.top
  simp only [meetG,meetT]
  by_cases h2:sN s &&& sN c=sN s
  ·rw [if_pos h2]
   have hU:U32 (bAnd .u32 m c):=by
    rw [e];exact U32.of (Nat.lt_of_le_of_lt Nat.and_le_left hm.lt)
   obtain ⟨a,b⟩:=meetG_spec (s:=s) hu' hU
   refine ⟨a,fun i=>?_⟩
   rw [b,e,sN_nat,Nat.testBit_and]
   simp only [List.forall_mem_cons,Bool.and_eq_true]
   constructor
   ·rintro ⟨⟨q1,q2⟩,q3⟩;exact ⟨q1,fun _=>q2,q3⟩
   ·rintro ⟨q1,q2,q3⟩;exact ⟨⟨q1,q2 (sub_iff.1 h2)⟩,q3⟩
  ·rw [if_neg h2]
   obtain ⟨a,b⟩:=meetG_spec (s:=s) hu' hm
   refine ⟨a,fun i=>?_⟩
   rw [b]
   simp only [List.forall_mem_cons]
   constructor
   ·rintro ⟨q1,q3⟩;exact ⟨q1,fun h=>absurd (sub_iff.2 h) h2,q3⟩
   ·rintro ⟨q1,_,q3⟩;exact ⟨q1,q3⟩
theorem pow_bit {n i:Nat}:(2^n-1).testBit i=decide (i<n):=Nat.testBit_two_pow_sub_one n i
def IrrP (n:Nat) (l:List api_FD) (m:Nat):Prop:=CloP n l m∧∃ a,a<n∧m.testBit a=false∧∀ c,CloP n l c→subN m c→c≠m→c.testBit a=true
theorem irr_mem {n:Nat} {l:List api_FD} (hn:n≤10) {y:Int}:y∈irrL n (closedL n l)↔∃ m:Nat,y=m∧IrrP n l m:=by
 unfold irrL
 rw [List.mem_filter,closedL_mem (by omega)]
 have hp:=pow16 (n:=n) (by omega)
 have hu:=closedL_all (n:=n) (l:=l) hn
 have hfu:U32 ((2^n-1:Nat):Int):=U32.of (by omega)
 constructor
 ·rintro ⟨⟨m,rfl,hm⟩,h⟩
  refine ⟨m,rfl,hm,?_⟩
  unfold irrB at h
  split at h
  ·cases h
  rename_i h1
  split at h
  ·cases h
  rename_i h2
  obtain ⟨ha,hb⟩:=meetF_spec (s:=(m:Int)) hu hfu
  have hne:sN (meetF (m:Int) ((2^n-1:Nat):Int) (closedL n l))≠m:=fun he=>h2 (by rw [ha.eq,he])
  have hsub:subN m (sN (meetF (m:Int) ((2^n-1:Nat):Int) (closedL n l))):=fun i hi=>by
   rw [hb,sN_nat]
   refine ⟨?_,fun c _ _ hs=>?_⟩
   ·rw [pow_bit,decide_eq_true_iff];exact lt_iff.1 hm.1 i hi
   ·rw [sN_nat] at hs;exact hs i hi
  have hex:∃ i,(sN (meetF (m:Int) ((2^n-1:Nat):Int) (closedL n l))).testBit i=true∧m.testBit i=false:=by
   false_or_by_contra
   rename_i hno
   refine hne (subN_anti (fun i hi=>?_) hsub)
   cases hmi:m.testBit i with
   | true=>rfl
   | false=>exact absurd ⟨i,hi,hmi⟩ hno
  obtain ⟨a,a1,a2⟩:=hex
  rw [hb,sN_nat,pow_bit,decide_eq_true_iff] at a1
  refine ⟨a,a1.1,a2,fun c hc hs hne=>?_⟩
  have:=a1.2 (c:Int) ((closedL_mem (by omega)).2 ⟨c,rfl,hc⟩) (by omega) (by rw [sN_nat,sN_nat];exact hs)
  rw [sN_nat] at this;exact this
 ·rintro ⟨m,rfl,hm,a,a1,a2,a3⟩
  refine ⟨⟨m,rfl,hm⟩,?_⟩
  have h1:¬ ((m:Int)=((2^n-1:Nat):Int)):=fun he=>by
   have:m=2^n-1:=by omega
   rw [this,pow_bit,decide_eq_false_iff_not] at a2
   exact a2 a1
  obtain ⟨ha,hb⟩:=meetF_spec (s:=(m:Int)) hu hfu
  have h2:¬ meetF (m:Int) ((2^n-1:Nat):Int) (closedL n l)=(m:Int):=fun he=>by
   have:=(hb a).2 ⟨by rw [sN_nat,pow_bit,decide_eq_true_iff];exact a1,fun c hc hne hs=>by
    obtain ⟨k,rfl,hk⟩:=(closedL_mem (by omega)).1 hc
    rw [sN_nat,sN_nat] at hs
    rw [sN_nat]
    exact a3 k hk hs (by omega)⟩
   rw [he,sN_nat,a2] at this
   cases this
  unfold irrB
  rw [if_neg h1,if_neg h2]
theorem irr_ex {n:Nat} {l:List api_FD} {s a:Nat} (ha:a<n) (hs:CloP n l s) (hsa:s.testBit a=false):∃ m,IrrP n l m∧subN s m∧m.testBit a=false:=by
 have:∀ d s,2^n-s≤d→CloP n l s→s.testBit a=false→∃ m,IrrP n l m∧subN s m∧m.testBit a=false:=by
  intro d
  induction d with
  | zero=>intro s hd hs;have:=hs.1;omega
  | succ d ih=>
   intro s hd hs hsa
   by_cases hx:∃ c,CloP n l c∧subN s c∧c≠s∧c.testBit a=false
   ·obtain ⟨c,c1,c2,c3,c4⟩:=hx
    have hlt:s<c:=by
     have hle:s≤c:=by
      have:s &&& c=s:=sub_iff.2 c2
      rw [← this];exact Nat.and_le_right
     omega
    have:=hs.1
    obtain ⟨m,m1,m2,m3⟩:=ih c (by omega) c1 c4
    exact ⟨m,m1,subN_trans c2 m2,m3⟩
   ·refine ⟨s,⟨hs,a,ha,hsa,fun c hc hsc hne=>?_⟩,subN_refl s,hsa⟩
    cases hca:c.testBit a with
    | true=>rfl
    | false=>exact absurd ⟨c,hc,hsc,hne,hca⟩ hx
 exact this _ s (Nat.le_refl _) hs hsa
def FdIn (n:Nat) (l:List api_FD):Prop:=∀ d∈l,sN d.Lhs<2^n∧sN d.Rhs<2^n
theorem fdsE_in {n:Int} {l:List api_FD} (h:fdsE n l=0):FdIn n.toNat l:=by
 unfold fdsE at h
 split at h
 ·cases h
 ·split at h
  ·cases h
  ·split at h
   ·rename_i ha
    intro d hd
    have:=List.all_eq_true.1 ha d hd
    unfold inU at this
    simp only [Bool.and_eq_true,decide_eq_true_eq] at this
    exact this
   ·cases h
theorem FdIn.r32 {n:Nat} {l:List api_FD} (h:FdIn n l) (hn:n≤16):∀ d∈l,sN d.Rhs<2^32:=fun d hd=>by
 have:=(h d hd).2
 have:=pow16 hn
 omega
theorem clo_CloP {n:Nat} {l:List api_FD} (h:FdIn n l) (hn:n≤16) {s:Nat} (hs:s<2^n):CloP n l (cloN l s):=
 ⟨cloN_lt (fun d hd=>(h d hd).2) hs,cloN_clo (h.r32 hn) (by have:=pow16 hn;omega)⟩
end Go.Own
namespace Go.Own
theorem bit_pow {a i:Nat}:(2^a).testBit i=decide (a=i):=Nat.testBit_two_pow
def ExactP (t:api_Table) (l:List api_FD) (n:Nat):Prop:=∀ s a,s<2^n→a<n→(SatP t s (2^a)↔(cloN l s).testBit a=true)
theorem sat_bits {t:api_Table} (ht:TV t) {s r n:Nat} (hn:n≤16) (hs:s<2^n) (hr:r<2^n):SatP t s r↔∀ a,r.testBit a=true→SatP t s (2^a):=by
 have hp:=pow16 hn
 have ha:∀ a,r.testBit a=true→2^a<2^32:=fun a h=>Nat.pow_lt_pow_right (by omega) (by have:=lt_iff.1 hr a h;omega)
 rw [sat_iff ht (by omega) (by omega)]
 constructor
 ·intro h a hb
  rw [sat_iff ht (by omega) (ha a hb)]
  intro i k hi hk e b hb2
  rw [bit_pow,decide_eq_true_iff] at hb2
  subst hb2
  exact h i k hi hk e a hb
 ·intro h i k hi hk e a hb
  have:=(sat_iff ht (by omega) (ha a hb)).1 (h a hb) i k hi hk e a (by rw [bit_pow];simp)
  exact this
def agrN (t:api_Table) (n i k:Nat):Nat:=ofBits (fun a=>decide (EqA t i k a)) n
theorem agrN_lt {t:api_Table} {n i k:Nat}:agrN t n i k<2^n:=ofBits_lt n
theorem agrN_bit {t:api_Table} {n i k a:Nat}:(agrN t n i k).testBit a=true↔a<n∧EqA t i k a:=by
 unfold agrN
 rw [ofBits_bit,Bool.and_eq_true,decide_eq_true_iff,decide_eq_true_iff]
theorem agr_clo {t:api_Table} (ht:TV t) {l:List api_FD} {n:Nat} (hn:n≤16) (hf:FdIn n l) (h:∀ s a,s<2^n→a<n→(cloN l s).testBit a=true→SatP t s (2^a)) {i k:Nat} (hi:i<t.Rows.length) (hk:k<i):CloP n l (agrN t n i k):=by
 have hp:=pow16 hn
 have hlt:agrN t n i k<2^n:=agrN_lt
 have hc:=clo_CloP hf hn hlt
 have:cloN l (agrN t n i k)=agrN t n i k:=by
  refine subN_anti (fun a ha=>?_) cloN_up
  have han:=lt_iff.1 hc.1 a ha
  rw [agrN_bit]
  refine ⟨han,?_⟩
  have:=h _ a hlt han ha
  rw [sat_iff ht (by omega) (Nat.pow_lt_pow_right (by omega) (by omega))] at this
  exact this i k hi hk (fun b hb=>(agrN_bit.1 hb).2) a (by rw [bit_pow];simp)
 rw [this] at hc;exact hc
theorem irr_agr {t:api_Table} (ht:TV t) {l:List api_FD} {n:Nat} (hn:n≤16) (hf:FdIn n l) (h:ExactP t l n) {m:Nat} (hm:IrrP n l m):∃ i k,i<t.Rows.length∧k<i∧agrN t n i k=m:=by
 have hp:=pow16 hn
 obtain ⟨hmc,a,a1,a2,a3⟩:=hm
 have hns:¬ SatP t m (2^a):=fun hs=>by
  have:=(h m a hmc.1 a1).1 hs
  rw [cloN_eq hmc.2,a2] at this;cases this
 have:=hmc.1
 rw [sat_iff ht (by omega) (Nat.pow_lt_pow_right (by omega) (by omega))] at hns
 false_or_by_contra
 rename_i hno
 refine hns fun i k hi hk e b hb=>?_
 rw [bit_pow,decide_eq_true_iff] at hb
 subst hb
 have hc:=agr_clo ht hn hf (fun s a hs ha=>(h s a hs ha).2) hi hk
 have hsub:subN m (agrN t n i k):=fun b hb=>agrN_bit.2 ⟨lt_iff.1 hmc.1 b hb,e b hb⟩
 have:=a3 _ hc hsub fun he=>hno ⟨i,k,hi,hk,he⟩
 exact (agrN_bit.1 this).2
def pairL (r:Nat):List (Nat×Nat):=(List.range r).flatMap fun i=>(List.range i).map fun k=>(i,k)
theorem pairL_len:∀ r,2*(pairL r).length=r*(r-1)
 | 0=>rfl
 | r+1=>by
  have ih:=pairL_len r
  unfold pairL at ih ⊢
  rw [List.range_succ,List.flatMap_append,List.length_append,Nat.mul_add,ih]
  simp only [List.flatMap_cons,List.flatMap_nil,List.append_nil,List.length_map,List.length_range]
  cases r with
  | zero=>rfl
  | succ r=>
   simp only [Nat.add_sub_cancel]
   have e1:(r+1+1)*(r+1)=(r+1)*(r+1)+(r+1):=Nat.succ_mul _ _
   have e2:(r+1)*(r+1)=(r+1)*r+(r+1):=Nat.mul_succ _ _
   omega
theorem pairL_mem {r i k:Nat}:(i,k)∈pairL r↔i<r∧k<i:=by
 unfold pairL
 simp only [List.mem_flatMap,List.mem_range,List.mem_map,Prod.mk.injEq]
 constructor
 ·rintro ⟨a,h1,b,h2,rfl,rfl⟩;exact ⟨h1,h2⟩
 ·rintro ⟨h1,h2⟩;exact ⟨i,h1,k,h2,rfl,rfl⟩
theorem asc_nodup {l:List Int} (h:Asc l):l.Nodup:=h.imp fun hab he=>by rw [he] at hab;omega
theorem irrL_nodup {n:Nat} (hn:n≤12) {l:List api_FD}:(irrL n (closedL n l)).Nodup:=by
 unfold irrL closedL
 exact (asc_nodup (((subs_asc hn).filter _).filter _))
theorem irr_pairs {t:api_Table} (ht:TV t) {l:List api_FD} {n:Nat} (hn:n≤10) (hf:FdIn n l) (h:ExactP t l n):2*(irrL n (closedL n l)).length≤t.Rows.length*(t.Rows.length-1):=by
 rw [← pairL_len]
 have:irrL n (closedL n l) ⊆ (pairL t.Rows.length).map fun p=>((agrN t n p.1 p.2:Nat):Int):=fun y hy=>by
  obtain ⟨m,rfl,hm⟩:=(irr_mem hn).1 hy
  obtain ⟨i,k,hi,hk,he⟩:=irr_agr ht (by omega) hf h hm
  exact List.mem_map.2 ⟨(i,k),pairL_mem.2 ⟨hi,hk⟩,by simp only [he]⟩
 have:=(irrL_nodup (n:=n) (by omega) (l:=l)).length_le_of_subset this
 rw [List.length_map] at this
 omega
theorem tri_nat (r:Nat):triI r=((r*(r-1) / 2:Nat):Int):=by
 unfold triI
 cases r with
 | zero=>rfl
 | succ r=>
  have e:(((r+1:Nat):Int)*(((r+1:Nat):Int)-1))=(((r+1)*r:Nat):Int):=by
   rw [Int.natCast_mul];congr 1;omega
  rw [e,Nat.add_sub_cancel,Int.tdiv_eq_ediv_of_nonneg (by omega)]
  omega
theorem lstGo_le {m R:Nat} (hR:(m:Int)≤triI R):∀ (f r:Nat),r≤R→lstGo m f r≤R
 | 0,r,h=>h
 | f+1,r,h=>by
  rw [lstGo]
  split
  ·rename_i hc
   refine lstGo_le hR f (r+1) ?_
   by_cases hr:r=R
   ·subst hr;omega
   ·omega
  ·exact h
theorem least_rows {t:api_Table} (ht:TV t) {l:List api_FD} {n:Nat} (hn:n≤10) (hf:FdIn n l) (h:ExactP t l n) (f:Nat):lstGo (irrL n (closedL n l)).length f 0≤t.Rows.length:=by
 refine lstGo_le ?_ f 0 (Nat.zero_le _)
 rw [tri_nat]
 have:=irr_pairs ht hn hf h
 omega
def armV (n k m:Nat):List api_Value:=(List.range n).map fun i=>{ Kind:=1,Num:=if m.testBit i=true then 0 else (k:Int),Str:=⟨#[]⟩ }
def armRow (n k m:Nat):api_Row:={ ID:=((k+1:Nat):Int),Values:=armV n k m }
def armRows (n:Nat):Nat→List Nat→List api_Row
 | _,[]=>[]
 | k,m::r=>armRow n k m::armRows n (k+1) r
theorem armRows_get {n:Nat}:∀ {ms:List Nat} {k j:Nat},(armRows n k ms)[j]? = (ms[j]?).map (armRow n (k+j))
 | [],k,j=>by simp [armRows]
 | m::r,k,0=>by simp [armRows]
 | m::r,k,j+1=>by
  simp only [armRows,List.getElem?_cons_succ]
  rw [armRows_get,show k+1+j=k+(j+1) by omega]
theorem armRows_len {n:Nat}:∀ {ms:List Nat} {k:Nat},(armRows n k ms).length=ms.length
 | [],_=>rfl
 | m::r,k=>by simp only [armRows,List.length_cons,armRows_len]
def armMs (n:Nat) (l:List api_FD):List Nat:=(2^n-1)::(irrL n (closedL n l)).map sN
theorem armMs_mem {n:Nat} {l:List api_FD} (hn:n≤10) {m:Nat}:m∈(irrL n (closedL n l)).map sN↔IrrP n l m:=by
 rw [List.mem_map]
 constructor
 ·rintro ⟨y,hy,rfl⟩
  obtain ⟨m,rfl,hm⟩:=(irr_mem hn).1 hy
  rw [sN_nat];exact hm
 ·intro hm
  exact ⟨m,(irr_mem hn).2 ⟨m,rfl,hm⟩,sN_nat⟩
theorem armV_get {n k m a:Nat} (ha:a<n):(armV n k m)[a]? = some { Kind:=1,Num:=if m.testBit a=true then 0 else (k:Int),Str:=⟨#[]⟩ }:=by
 unfold armV
 rw [List.getElem?_map,List.getElem?_range ha];rfl
theorem arm_eqA {n:Nat} {l:List api_FD} {t:api_Table} (htr:t.Rows=armRows n 0 (armMs n l)) {i k a:Nat} (ha:a<n) {p q:Nat} (hp:(armMs n l)[i]? = some p) (hq:(armMs n l)[k]? = some q) (hki:k<i):EqA t i k a↔p.testBit a=true∧q.testBit a=true:=by
 unfold EqA
 rw [htr,armRows_get,armRows_get,hp,hq]
 simp only [Option.map_some,Option.some.injEq,armRow,armV_get ha,Nat.zero_add,api_Value.mk.injEq,true_and,and_true]
 have h0:k=0→q.testBit a=true:=fun h=>by
  subst h
  unfold armMs at hq
  rw [List.getElem?_cons_zero,Option.some.injEq] at hq
  rw [← hq,pow_bit,decide_eq_true_iff];exact ha
 by_cases h1:p.testBit a=true
 ·by_cases h2:q.testBit a=true
  ·simp [h1,h2]
  ·have:k≠0:=fun h=>h2 (h0 h)
   rw [if_pos h1,if_neg h2]
   constructor
   ·intro h;omega
   ·rintro ⟨_,h⟩;exact absurd h h2
 ·rw [if_neg h1]
  constructor
  ·intro h
   split at h
   ·omega
   ·omega
  ·rintro ⟨h,_⟩;exact absurd h h1
theorem arm_sat {n:Nat} {l:List api_FD} {t:api_Table} (hn:n≤10) (hf:FdIn n l) (ht:TV t) (htr:t.Rows=armRows n 0 (armMs n l)) {x y:Nat} (hx:x<2^n) (hy:y<2^n):SatP t x y↔subN y (cloN l x):=by
 have hp:=pow16 (n:=n) (by omega)
 rw [sat_iff ht (by omega) (by omega)]
 have hlen:t.Rows.length=(armMs n l).length:=by rw [htr,armRows_len]
 have hc:=clo_CloP hf (by omega) hx
 constructor
 ·intro h a ha
  false_or_by_contra
  rename_i hna
  have hna:(cloN l x).testBit a=false:=by simpa using hna
  have han:=lt_iff.1 hy a ha
  obtain ⟨m,m1,m2,m3⟩:=irr_ex han hc hna
  obtain ⟨j,hj⟩:=List.getElem?_of_mem ((armMs_mem hn).2 m1)
  have hj1:(armMs n l)[j+1]? = some m:=by unfold armMs;rw [List.getElem?_cons_succ];exact hj
  have hj0:(armMs n l)[0]? = some (2^n-1):=rfl
  have hlt:j+1<(armMs n l).length:=(List.getElem?_eq_some_iff.1 hj1).1
  have:=h (j+1) 0 (by omega) (by omega) (fun b hb=>by
   have hbn:=lt_iff.1 hx b hb
   rw [arm_eqA htr hbn hj1 hj0 (by omega)]
   exact ⟨m2 b (cloN_up b hb),by rw [pow_bit,decide_eq_true_iff];exact hbn⟩) a ha
  rw [arm_eqA htr han hj1 hj0 (by omega)] at this
  rw [m3] at this;cases this.1
 ·intro h i k hi hk e a ha
  have han:=lt_iff.1 hy a ha
  have hi':i<(armMs n l).length:=by omega
  have hk':k<(armMs n l).length:=by omega
  have gi:=List.getElem?_eq_getElem hi'
  have gk:=List.getElem?_eq_getElem hk'
  have sub:∀ j (hj:j<(armMs n l).length),(∀ b,x.testBit b=true→((armMs n l)[j]'hj).testBit b=true)→((armMs n l)[j]'hj).testBit a=true:=fun j hj hb=>by
   have gm:=List.getElem_mem hj
   unfold armMs at gm
   rcases List.mem_cons.1 gm with hm | hm
   ·have:(armMs n l)[j]=2^n-1:=hm
    rw [this,pow_bit,decide_eq_true_iff];exact han
   ·have hm:(armMs n l)[j]∈(irrL n (closedL n l)).map sN:=hm
    have:=(armMs_mem hn).1 hm
    exact cloN_min hb this.1.2 a (h a ha)
  rw [arm_eqA htr han gi gk hk]
  have e':∀ b,x.testBit b=true→_:=fun b hb=>(arm_eqA htr (lt_iff.1 hx b hb) gi gk hk).1 (e b hb)
  exact ⟨sub i hi' fun b hb=>(e' b hb).1,sub k hk' fun b hb=>(e' b hb).2⟩
theorem arm_exact {n:Nat} {l:List api_FD} {t:api_Table} (hn:n≤10) (hf:FdIn n l) (ht:TV t) (htr:t.Rows=armRows n 0 (armMs n l)):ExactP t l n:=fun s a hs ha=>by
 rw [arm_sat hn hf ht htr hs (Nat.pow_lt_pow_right (by omega) ha)]
 constructor
 ·intro h;exact h a (by rw [bit_pow];simp)
 ·intro h b hb
  rw [bit_pow,decide_eq_true_iff] at hb
  subst hb;exact h
end Go.Own
namespace Go.Own
def abcL:List ByteArray:=[⟨#[97]⟩,⟨#[98]⟩,⟨#[99]⟩,⟨#[100]⟩,⟨#[101]⟩,⟨#[102]⟩,⟨#[103]⟩,⟨#[104]⟩,⟨#[105]⟩,⟨#[106]⟩]
def armT (n:Nat) (l:List api_FD):api_Table:={ Name:=⟨#[116]⟩,Attrs:=abcL.take n,Rows:=armRows n 0 (armMs n l) }
def armF (n:Int) (l:List api_FD):api_Table×Int:=if (irrF n l).2=0 then (armT n.toNat l,0) else ({ Name:=⟨#[]⟩,Attrs:=[],Rows:=[] },(irrF n l).2)
theorem armRows_snoc {n m:Nat}:∀ {ms:List Nat} {k:Nat},armRows n k (ms++[m])=armRows n k ms++[armRow n (k+ms.length) m]
 | [],k=>by simp [armRows]
 | x::r,k=>by
  simp only [List.cons_append,armRows,List.length_cons]
  rw [armRows_snoc,show k+1+r.length=k+(r.length+1) by omega]
theorem abc_enc:∀ i:Fin 10,Utf8.encode (IntKind.wrap .i32 (IntKind.wrap .i64 (97+(i.val:Int))))=(abcL[i.val]?).getD ⟨#[]⟩:=by decide +kernel
theorem abc_take {k:Nat} (h:k<10):abcL.take (k+1)=abcL.take k++[Utf8.encode (IntKind.wrap .i32 (IntKind.wrap .i64 (97+(k:Int))))]:=by
 have e:=abc_enc ⟨k,h⟩
 simp only at e
 rw [e,List.take_add_one]
 have:k<abcL.length:=h
 rw [List.getElem?_eq_getElem this];rfl
theorem armV_succ {n k m:Nat}:armV (n+1) k m=armV n k m++[{ Kind:=1,Num:=if m.testBit n=true then 0 else (k:Int),Str:=⟨#[]⟩ }]:=by
 unfold armV
 rw [List.range_succ,List.map_append];rfl
theorem armV_len {n k m:Nat}:(armV n k m).length=n:=by simp [armV]
theorem irrF_n {n:Int} {l:List api_FD} (h:(irrF n l).2=0):errA n l=0∧irrF n l=(irrL n.toNat (closedL n.toNat l),0):=by
 unfold irrF at h ⊢
 split
 ·rename_i h0;exact ⟨h0,rfl⟩
 ·rename_i h0;rw [if_neg h0] at h;exact absurd h h0
theorem irrL_all {n:Nat} {l:List api_FD} (hn:n≤10):AllU (irrL n (closedL n l)):=fun y hy=>closedL_all hn y (List.mem_filter.1 hy).1
namespace armstrong_Build
theorem cells {n:Nat} {ats:List ByteArray} {rows:List api_Row} {k m:Nat} {l:List Int} {φ:api_Table×Int→Prop} (hn:n≤10) (hm:m<2^32) (hk:k≤2000) (hr:rows.length≤2000)
  (h:L2 n ats (rows++[armRow n k m]) l (l.length:Int) ((k+1:Nat):Int) φ):∀ (d i:Nat),d+i=n→L3 n ats rows k m ((k+1:Nat):Int) (armV i k m) l (l.length:Int) k i φ
 | 0,i,hd=>by
  have:i=n:=by omega
  subst this
  apply L3_step
  rw [if_neg (by omega),wrap_succ (by omega)]
  exact ⟨by omega,h⟩
 | d+1,i,hd=>by
  have next:=cells hn hm hk hr h d (i+1) (by omega)
  rw [armV_succ] at next
  apply L3_step
  rw [if_pos (by omega)]
  refine ⟨by omega,?_⟩
  by_cases hb:m.testBit i=true
  ·rw [if_pos hb] at next
   rw [if_neg (fun h=>by rw [bit_eq0 (k:=.u32) (by simpa [top] using hm) (by decide)] at h;rw [hb] at h;cases h)]
   apply L4_step
   rw [wrap_succ (by omega)]
   exact ⟨by rw [armV_len];omega,next⟩
  ·rw [if_neg hb] at next
   rw [if_pos ((bit_eq0 (k:=.u32) (by simpa [top] using hm) (by decide)).2 (by simpa using hb))]
   apply L4_step
   rw [wrap_succ (by omega)]
   exact ⟨by rw [armV_len];omega,next⟩
theorem rows {n:Nat} {ats:List ByteArray} {l:List Int} (hn:n≤10) (hl:AllU l) (hlen:l.length≤1100):∀ (r:List Int) (k:Nat),l.drop k=r→k≤l.length→L2 n ats (armRows n 0 ((l.take k).map sN)) l (l.length:Int) k (fun r=>r=({ Name:=⟨#[116]⟩,Attrs:=ats,Rows:=armRows n 0 (l.map sN) },0))
 | [],k,hd,hk=>by
  have:=drop_ge hd
  apply L2_step
  rw [if_neg (by omega),List.take_of_length_le (by omega)]
 | s::r,k,hd,hk=>by
  have hlt:=drop_lt hd
  have hs:=hl s (List.mem_of_getElem? (drop_get hd))
  apply L2_step
  rw [if_pos (by omega)]
  refine ⟨s,lget_drop hd,?_⟩
  have next:=rows (ats:=ats) hn hl hlen r (k+1) (drop_next hd) (by omega)
  rw [List.take_add_one,drop_get hd,Option.toList_some,List.map_append,List.map_cons,List.map_nil,armRows_snoc,List.length_map,List.length_take,Nat.min_eq_left (by omega),Nat.zero_add] at next
  rw [wrap_succ (by omega)]
  have:=cells (ats:=ats) (rows:=armRows n 0 ((l.take k).map sN)) hn hs.lt (k:=k) (by omega) (by rw [armRows_len,List.length_map,List.length_take];omega) next n 0 (by omega)
  rw [← hs.eq] at this
  exact this
theorem spec {n : Int} {l : List api_FD} (hl : FdOK l) (hn : l.length < 1000000000) : C n l (armF n l) := by
  obtain ⟨r, h1, h2⟩ := enter n l (fun r => r = armF n l) (by
    refine ⟨_, armstrong_Irreducible.spec hl hn, ?_⟩
    unfold armF
    split
    · rename_i h0
      obtain ⟨h0, e⟩ := irrF_n h0
      obtain ⟨g1, g2, g3⟩ := errA_n h0
      have hil := irrF_len (n := n) (l := l)
      obtain ⟨m, rfl⟩ : ∃ m : Nat, n = m := ⟨n.toNat, by omega⟩
      rw [Int.toNat_natCast] at e ⊢
      have hu := irrL_all (n := m) (l := l) (by omega)
      have hp := pow16 (n := m) (by omega)
      have fin : L1 m (irrF m l) (abcL.take m) m (fun r => r = (armT m l, 0)) := by
        apply L1_step
        rw [if_neg (by omega)]
        refine ⟨_, armstrong_full.spec (by omega), by rw [List.length_singleton]; omega, ?_⟩
        have := rows (n := m) (ats := abcL.take m) (l := [((2 ^ m - 1 : Nat) : Int)] ++ (irrF m l).1) (by omega) (fun y hy => by
          rcases List.mem_append.1 hy with hy | hy
          · rw [List.mem_singleton.1 hy]; exact U32.of (by omega)
          · rw [e] at hy; exact hu y hy) (by rw [List.length_append, List.length_singleton]; omega) _ 0 rfl (Nat.zero_le _)
        have et : (([((2 ^ m - 1 : Nat) : Int)] ++ (irrF m l).1).map sN) = armMs m l := by
          rw [e, List.map_append, List.map_cons, List.map_nil, sN_nat]; rfl
        rw [et] at this
        exact this
      have : ∀ (d i : Nat), d + i = m → L1 m (irrF m l) (abcL.take i) i (fun r => r = (armT m l, 0)) := by
        intro d
        induction d with
        | zero => intro i hd; have : i = m := by omega
                  subst this; exact fin
        | succ d ih =>
          intro i hd
          have next := ih (i + 1) (by omega)
          rw [abc_take (by omega)] at next
          apply L1_step
          rw [if_pos (by omega), wrap_succ (by omega)]
          exact ⟨by rw [List.length_take]; omega, next⟩
      exact this m 0 (by omega)
    · rfl)
  rw [← h1]; exact h2
end armstrong_Build
end Go.Own
namespace Go.Own
def errT (t:api_Table) (l:List api_FD):Int:=if tableF t=0 then (if 200<(t.Rows.length:Int) then 3 else errA (t.Attrs.length:Int) l) else tableF t
theorem armstrong_checkTable.spec {t:api_Table} {l:List api_FD} (hl:FdOK l):armstrong_checkTable.C t l (errT t l):=by
 obtain ⟨r,h1,h2⟩:=armstrong_checkTable.enter t l (fun r=>r=errT t l) (by
  refine ⟨_,table_Valid.spec,?_⟩
  unfold errT
  split
  ·split
   ·rfl
   ·exact ⟨_,armstrong_check.spec hl,rfl⟩
  ·rfl)
 rw [← h1];exact h2
theorem drossref19_TableError.spec {t:api_Table} {l:List api_FD} (hl:FdOK l):drossref19_TableError.C t l (errT t l):=by
 obtain ⟨r,h1,h2⟩:=drossref19_TableError.enter t l (fun r=>r=errT t l) (by
  refine ⟨_,drossref03_Valid.spec,?_⟩
  unfold errT
  split
  ·split
   ·rfl
   ·exact ⟨_,drossref19_Error.spec hl,rfl⟩
  ·rfl)
 rw [← h1];exact h2
theorem errT_ok {t:api_Table} {l:List api_FD} (h:errT t l=0):TV t∧t.Rows.length≤200∧t.Attrs.length≤10∧FdIn t.Attrs.length l:=by
 unfold errT at h
 split at h
 ·rename_i h0
  split at h
  ·cases h
  ·obtain ⟨g1,g2,g3⟩:=errA_n h
   have:=fdsE_in g3
   rw [Int.toNat_natCast] at this
   exact ⟨tableF_iff.1 h0,by omega,by omega,this⟩
 ·rename_i h0;exact absurd h h0
open Classical in
noncomputable def satB (t:api_Table) (l r:Nat):Bool:=decide (SatP t l r)
theorem satB_iff {t:api_Table} {l r:Nat}:satB t l r=true↔SatP t l r:=by unfold satB;exact @decide_eq_true_iff _ (Classical.propDecidable _)
namespace drossref19_Holds
theorem inner {t:api_Table} {fd:api_FD} {i:Nat} {φ:Bool→Prop} (ht:TV t) (hl:U32 fd.Lhs) (hr:U32 fd.Rhs) (hi:i<t.Rows.length) (hf:¬ SatP t (sN fd.Lhs) (sN fd.Rhs)→φ false)
  (h:(∀ k,i<k→k<t.Rows.length→OkP t (sN fd.Lhs) (sN fd.Rhs) k i)→L1 t fd ((i+1:Nat):Int) φ):∀ (d k:Nat),d+k=t.Rows.length→i<k→(∀ j,i<j→j<k→OkP t (sN fd.Lhs) (sN fd.Rhs) j i)→L2 t fd i k φ
 | 0,k,hd,hik,hj=>by
  apply L2_step
  rw [if_neg (by omega),wrap_succ (by have:=ht.nr;omega)]
  exact h fun j h1 h2=>hj j h1 (by omega)
 | d+1,k,hd,hik,hj=>by
  have nr:=ht.nr
  have na:=ht.na
  have hk:k<t.Rows.length:=by omega
  apply L2_step
  rw [if_pos (by omega)]
  have mi:=List.getElem_mem hi
  have mk:=List.getElem_mem hk
  have sv:∀ v∈(t.Rows[i]).Values,v.Str.toList.length<Big:=fun v hv=>by have:=valid_str (ht.val mi v hv);unfold Big;omega
  have la:=ht.len mi
  have lb:=ht.len mk
  have next:OkP t (sN fd.Lhs) (sN fd.Rhs) k i→L3 t fd i k φ:=fun ho=>by
   apply L3_step
   rw [wrap_succ (by omega)]
   refine inner ht hl hr hi hf h d (k+1) (by omega) (by omega) fun j h1 h2=>?_
   by_cases hjj:j=k
   ·subst hjj;exact ho
   ·exact hj j h1 (by omega)
  have a1:=drossref03_Agree.spec (a:=t.Rows[i]) (b:=t.Rows[k]) (n:=sN fd.Lhs) hl.lt (by omega) (by omega) sv
  have a2:=drossref03_Agree.spec (a:=t.Rows[i]) (b:=t.Rows[k]) (n:=sN fd.Rhs) hr.lt (by omega) (by omega) sv
  rw [← hl.eq] at a1
  rw [← hr.eq] at a2
  refine ⟨t.Rows[i],lget_of (List.getElem?_eq_getElem hi),t.Rows[k],lget_of (List.getElem?_eq_getElem hk),_,a1,?_⟩
  split
  ·rename_i h1
   refine ⟨_,a2,?_⟩
   split
   ·rename_i h2
    exact next fun _=>((agr hi hk).1 h2).symm
   ·rename_i h2
    refine hf fun hs=>h2 ?_
    exact (agr hi hk).2 ((hs k i hk hik ((agr hi hk).1 h1).symm).symm)
  ·rename_i h1
   exact next fun hh=>absurd ((agr hi hk).2 hh.symm) h1
theorem spec {t:api_Table} {fd:api_FD} (ht:TV t) (hl:U32 fd.Lhs) (hr:U32 fd.Rhs):C t fd (satB t (sN fd.Lhs) (sN fd.Rhs)):=by
 obtain ⟨b,h1,h2⟩:=enter t fd (fun b=>(b=true↔SatP t (sN fd.Lhs) (sN fd.Rhs))) (by
  have nr:=ht.nr
  have hf:¬ SatP t (sN fd.Lhs) (sN fd.Rhs)→(false=true↔SatP t (sN fd.Lhs) (sN fd.Rhs)):=fun h=>by simp [h]
  have:∀ (d i:Nat),d+i=t.Rows.length→(∀ a,a<i→∀ k,a<k→k<t.Rows.length→OkP t (sN fd.Lhs) (sN fd.Rhs) k a)→L1 t fd i fun b=>(b=true↔SatP t (sN fd.Lhs) (sN fd.Rhs)):=by
   intro d
   induction d with
   | zero=>
    intro i hd h
    apply L1_step
    rw [if_neg (by omega)]
    simp only [true_iff]
    exact fun i k hi hk=>h k (by omega) i hk hi
   | succ d ih=>
    intro i hd h
    apply L1_step
    rw [if_pos (by omega),wrap_succ (by omega)]
    refine inner ht hl hr (by omega) hf (fun hk=>ih (i+1) (by omega) fun a ha k h1 h2=>?_) (t.Rows.length-(i+1)) (i+1) (by omega) (by omega) (fun j h1 h2=>by omega)
    by_cases hai:a=i
    ·subst hai;exact hk k h1 h2
    ·exact h a (by omega) k h1 h2
  exact this _ 0 rfl (fun a ha=>by omega))
 have:b=satB t (sN fd.Lhs) (sN fd.Rhs):=Bool.eq_iff_iff.2 (h1.trans satB_iff.symm)
 rw [← this];exact h2
end drossref19_Holds
def impB (l:List api_FD) (a b:Int):Bool:=decide (sN b &&& cloN l (sN a)=sN b)
theorem drossref09_Implies.spec {l:List api_FD} (hl:FdOK l) (hn:l.length<1000000000) {d:api_FD} (ha:U32 d.Lhs) (hb:U32 d.Rhs):drossref09_Implies.C l d (impB l d.Lhs d.Rhs):=by
 have hc:=drossref09_Close.spec hl hn ha.lt
 rw [← ha.eq] at hc
 have hcl:cloN l (sN d.Lhs)<2^32:=cloN_lt (fun d hd=>(hl d hd).2.lt) ha.lt
 obtain ⟨r,h1,h2⟩:=drossref09_Implies.enter l d (fun r=>r=impB l d.Lhs d.Rhs) ⟨_,hc,_,sub_spec hb hcl,rfl⟩
 rw [← h1];exact h2
theorem impB_iff {l:List api_FD} {a b:Int}:impB l a b=true↔subN (sN b) (cloN l (sN a)):=by
 unfold impB;rw [decide_eq_true_iff,sub_iff];exact Iff.rfl
theorem shl_bit {a:Nat} (ha:a<32):shlw .u32 1 (a:Int)=((2^a:Nat):Int):=shl1_nat (k:=.u32) (by simpa only [top] using ha)
theorem u32_bit {a:Nat} (ha:a<32):U32 ((2^a:Nat):Int):=U32.of (Nat.pow_lt_pow_right (by omega) ha)
theorem impB_bit {l:List api_FD} {s a:Nat}:impB l (s:Int) ((2^a:Nat):Int)=(cloN l s).testBit a:=by
 refine Bool.eq_iff_iff.2 ?_
 rw [impB_iff,sN_nat,sN_nat]
 constructor
 ·intro h;exact h a (by rw [bit_pow];simp)
 ·intro h b hb
  rw [bit_pow,decide_eq_true_iff] at hb
  subst hb;exact h
open Classical in
noncomputable def detN (t:api_Table) (n x:Nat):Nat:=ofBits (fun a=>satB t x (2^a)) n
theorem detN_bit {t:api_Table} {n x a:Nat}:(detN t n x).testBit a=true↔a<n∧SatP t x (2^a):=by
 unfold detN
 rw [ofBits_bit,Bool.and_eq_true,decide_eq_true_iff,satB_iff]
theorem detN_lt {t:api_Table} {n x:Nat}:detN t n x<2^n:=ofBits_lt n
noncomputable def moreN (t:api_Table) (l:List api_FD) (n x:Nat):Nat:=ndiff (detN t n x) (cloN l x)
theorem moreN_bit {t:api_Table} {l:List api_FD} {n x a:Nat}:(moreN t l n x).testBit a=true↔(a<n∧SatP t x (2^a))∧(cloN l x).testBit a=false:=by
 unfold moreN
 rw [ndiff_bit,Bool.and_eq_true,detN_bit,Bool.not_eq_true']
theorem moreN_lt {t:api_Table} {l:List api_FD} {n x:Nat}:moreN t l n x<2^n:=Nat.lt_of_le_of_lt ndiff_le detN_lt
theorem zero_bits {m:Nat}:m=0↔∀ a,m.testBit a=false:=by
 constructor
 ·rintro rfl a;exact Nat.zero_testBit a
 ·intro h;exact Nat.eq_of_testBit_eq fun i=>by rw [h,Nat.zero_testBit]
noncomputable def extL (t:api_Table) (l:List api_FD) (n:Nat):List Int→api_FD×Int
 | []=>({ Lhs:=0,Rhs:=0 },4)
 | y::r=>if moreN t l n (sN y)=0 then extL t l n r else ({ Lhs:=y,Rhs:=((2^lowest (moreN t l n (sN y)) 32 0:Nat):Int) },0)
noncomputable def extraF (t:api_Table) (l:List api_FD):api_FD×Int:=if errT t l=0 then extL t l t.Attrs.length (subsF (2^t.Attrs.length-1)) else ({ Lhs:=0,Rhs:=0 },errT t l)
noncomputable def brkL (t:api_Table):List api_FD→api_FD×Int
 | []=>({ Lhs:=0,Rhs:=0 },4)
 | d::r=>if satB t (sN d.Lhs) (sN d.Rhs)=true then brkL t r else (d,0)
noncomputable def brkF (t:api_Table) (l:List api_FD):api_FD×Int:=if errT t l=0 then brkL t l else ({ Lhs:=0,Rhs:=0 },errT t l)
theorem extL_four {t:api_Table} {l:List api_FD} {n:Nat}:∀ {q:List Int},(extL t l n q).2=4↔∀ y∈q,moreN t l n (sN y)=0
 | []=>by simp [extL]
 | y::r=>by
  rw [extL,List.forall_mem_cons]
  by_cases h:moreN t l n (sN y)=0
  ·rw [if_pos h,extL_four];simp [h]
  ·rw [if_neg h];simp [h]
theorem brkL_four {t:api_Table}:∀ {q:List api_FD},(brkL t q).2=4↔∀ d∈q,SatP t (sN d.Lhs) (sN d.Rhs)
 | []=>by simp [brkL]
 | d::r=>by
  rw [brkL,List.forall_mem_cons]
  by_cases h:satB t (sN d.Lhs) (sN d.Rhs)=true
  ·rw [if_pos h,brkL_four];simp [satB_iff.1 h]
  ·rw [if_neg h]
   constructor
   ·intro hh;cases hh
   ·rintro ⟨h1,_⟩;exact absurd (satB_iff.2 h1) h
theorem exact_iff {t:api_Table} (ht:TV t) {l:List api_FD} {n:Nat} (hn:n≤10) (hf:FdIn n l):ExactP t l n↔(∀ x,x<2^n→moreN t l n x=0)∧∀ d∈l,SatP t (sN d.Lhs) (sN d.Rhs):=by
 have hp:=pow16 (n:=n) (by omega)
 constructor
 ·intro h
  refine ⟨fun x hx=>zero_bits.2 fun a=>?_,fun d hd=>?_⟩
  ·cases hb:(moreN t l n x).testBit a with
   | false=>rfl
   | true=>
    obtain ⟨⟨h1,h2⟩,h3⟩:=moreN_bit.1 hb
    rw [(h x a hx h1).1 h2] at h3;cases h3
  ·obtain ⟨d1,d2⟩:=hf d hd
   rw [sat_bits ht (by omega) d1 d2]
   intro a ha
   have hc:=clo_CloP hf (by omega) d1
   exact (h _ a d1 (lt_iff.1 d2 a ha)).2 (hc.2 d hd cloN_up a ha)
 ·rintro ⟨h1,h2⟩ s a hs ha
  constructor
  ·intro hsat
   cases hb:(cloN l s).testBit a with
   | true=>rfl
   | false=>
    have:=zero_bits.1 (h1 s hs) a
    rw [moreN_bit.2 ⟨⟨ha,hsat⟩,hb⟩] at this;cases this
  ·intro hb
   have hsub:subN s (detN t n s):=fun b hb=>by
    rw [detN_bit]
    refine ⟨lt_iff.1 hs b hb,?_⟩
    have hbn:=lt_iff.1 hs b hb
    rw [sat_iff ht (by omega) (Nat.pow_lt_pow_right (by omega) (by omega))]
    intro i k hi hk e c hc
    rw [bit_pow,decide_eq_true_iff] at hc
    subst hc;exact e b hb
   have hclo:IsClo l (detN t n s):=fun d hd hle a ha=>by
    obtain ⟨d1,d2⟩:=hf d hd
    have s1:SatP t s (sN d.Lhs):=(sat_bits ht (by omega) hs d1).2 fun b hb=>(detN_bit.1 (hle b hb)).2
    have s2:=h2 d hd
    have s3:SatP t s (sN d.Rhs):=fun i k hi hk e=>s2 i k hi hk (s1 i k hi hk e)
    exact detN_bit.2 ⟨lt_iff.1 d2 a ha,(sat_bits ht (by omega) hs d2).1 s3 a ha⟩
   exact (detN_bit.1 (cloN_min hsub hclo a hb)).2
open Classical in
noncomputable def exB (t:api_Table) (l:List api_FD) (n:Nat):Bool:=decide (ExactP t l n)
theorem exB_iff {t:api_Table} {l:List api_FD} {n:Nat}:exB t l n=true↔ExactP t l n:=by unfold exB;exact @decide_eq_true_iff _ (Classical.propDecidable _)
noncomputable def exactF (t:api_Table) (l:List api_FD):Bool×Int:=if errT t l=0 then (exB t l t.Attrs.length,0) else (false,errT t l)
theorem exB_parts {t:api_Table} {l:List api_FD} (h:errT t l=0):exB t l t.Attrs.length=true↔(extraF t l).2=4∧(brkF t l).2=4:=by
 obtain ⟨g1,g2,g3,g4⟩:=errT_ok h
 unfold extraF brkF
 rw [if_pos h,if_pos h,exB_iff,exact_iff g1 g3 g4,extL_four,brkL_four]
 refine and_congr_left fun _=>?_
 constructor
 ·intro hx y hy
  obtain ⟨m,rfl,hm⟩:=(subs_mem (by omega)).1 hy
  rw [sN_nat];exact hx m hm
 ·intro hy x hx
  have:=hy (x:Int) ((subs_mem (by omega)).2 ⟨x,rfl,hx⟩)
  rw [sN_nat] at this;exact this
end Go.Own
namespace Go.Own
end Go.Own
namespace Go.Own
def seenB (l:List Int) (m:List (Int×Bool)):Prop:=∀ y,mgetD y m false=true↔y∈l
theorem seen_put {l:List Int} {m:List (Int×Bool)} {x:Int} (h:seenB l m):seenB (l++[x]) (mset x true m):=fun y=>by
 unfold mgetD
 rw [mget_mset]
 have hy:=h y
 unfold mgetD at hy
 split
 ·rename_i he;subst he;simp
 ·rename_i he
  rw [hy,List.mem_append,List.mem_singleton]
  exact ⟨.inl,fun h=>h.resolve_right fun h2=>he h2.symm⟩
theorem valI_eq {a b:api_Value}:(and (a.Kind == b.Kind) (and (a.Num == b.Num) (and (a.Str.toList == b.Str.toList) true)))=true↔a=b:=by
 cases a;cases b
 simp only [Bool.and_eq_true,beq_iff_eq,and_true,api_Value.mk.injEq,bl_inj]
theorem agrN_succ {t:api_Table} {j i k:Nat}:agrN t (j+1) i k=if EqA t i k j then agrN t j i k ||| 2^j else agrN t j i k:=by
 have hlt:=agrN_lt (t:=t) (n:=j) (i:=i) (k:=k)
 unfold agrN at hlt ⊢
 rw [ofBits]
 by_cases h:EqA t i k j
 ·have e:=Nat.two_pow_add_eq_or_of_lt hlt 1
  rw [Nat.mul_one] at e
  rw [if_pos (decide_eq_true h),if_pos h,Nat.or_comm,← e,Nat.add_comm]
 ·rw [if_neg (by simpa using h),if_neg h];rfl
def Ags (t:api_Table) (l:List Int) (P:Nat→Nat→Prop):Prop:=∀ y,y∈l↔∃ i k,P i k∧i<t.Rows.length∧k<i∧y=((agrN t t.Attrs.length i k:Nat):Int)
namespace armstrong_agrees
theorem vals {t:api_Table} {out:List Int} {m:List (Int×Bool)} {i k:Nat} {φ:List Int→Prop} (ht:TV t) (hi:i<t.Rows.length) (hk:k<i) {p:List api_Row} (hlen:out.length≤40000) (hs:seenB out m)
  (h:∀ out' m',seenB out' m'→(∀ y,y∈out'↔y∈out∨y=((agrN t t.Attrs.length i k:Nat):Int))→out'.length≤out.length+1→L2 t out' m' (t.Rows[i]) i p (p.length:Int) ((k+1:Nat):Int) φ):∀ (d j:Nat),d+j=t.Attrs.length→L3 t out m (t.Rows[i]) (t.Rows[k]'(by omega)) ((agrN t j i k:Nat):Int) i p (p.length:Int) k j φ
 | 0,j,hd=>by
  have hj:j=t.Attrs.length:=by omega
  subst hj
  have hk':k<t.Rows.length:=by omega
  have la:=ht.len (List.getElem_mem hi)
  have nr:=ht.nr
  apply L3_step
  rw [if_neg (by omega)]
  by_cases hin:((agrN t t.Attrs.length i k:Nat):Int)∈out
  ·rw [if_pos ((hs _).2 hin)]
   apply L5_step
   rw [wrap_succ (by omega)]
   exact h out m hs (fun y=>⟨.inl,fun hh=>hh.elim id fun e=>e ▸ hin⟩) (by omega)
  ·rw [if_neg (fun hh=>hin ((hs _).1 hh))]
   refine ⟨by omega,?_⟩
   apply L5_step
   rw [wrap_succ (by omega)]
   exact h _ _ (seen_put hs) (fun y=>by rw [List.mem_append,List.mem_singleton]) (by rw [List.length_append,List.length_singleton];omega)
 | d+1,j,hd=>by
  have hk':k<t.Rows.length:=by omega
  have la:=ht.len (List.getElem_mem hi)
  have lb:=ht.len (List.getElem_mem hk')
  have na:=ht.na
  have next:=vals ht hi hk hlen hs h d (j+1) (by omega)
  rw [agrN_succ] at next
  have e1:((t.Rows[i]).Values)[j]? = some (((t.Rows[i]).Values)[j]'(by omega)):=List.getElem?_eq_getElem _
  have e2:((t.Rows[k]).Values)[j]? = some (((t.Rows[k]).Values)[j]'(by omega)):=List.getElem?_eq_getElem _
  have heq:EqA t i k j↔((t.Rows[i]).Values)[j]'(by omega)=((t.Rows[k]).Values)[j]'(by omega):=by
   unfold EqA
   rw [List.getElem?_eq_getElem hi,List.getElem?_eq_getElem hk',Option.map_some,Option.map_some,e1,e2]
   simp
  have hlt:=agrN_lt (t:=t) (n:=j) (i:=i) (k:=k)
  have hp:=pow16 (n:=j) (by omega)
  apply L3_step
  rw [if_pos (by omega)]
  refine ⟨_,lget_of e1,_,lget_of e2,?_⟩
  by_cases he:EqA t i k j
  ·rw [if_pos he] at next
   rw [if_pos (valI_eq.2 (heq.1 he)),shl_bit (by omega),bOr_nat (k:=.u32) (by simp only [top];omega) (by simp only [top];exact Nat.pow_lt_pow_right (by omega) (by omega))]
   refine ⟨by omega,?_⟩
   apply L4_step
   rw [wrap_succ (by omega)];exact next
  ·rw [if_neg he] at next
   rw [if_neg (fun hh=>he (heq.2 (valI_eq.1 hh)))]
   apply L4_step
   rw [wrap_succ (by omega)];exact next
theorem pairs {t:api_Table} {i:Nat} {φ:List Int→Prop} (ht:TV t) (hi:i<t.Rows.length) (h2:t.Rows.length≤200)
  (h:∀ out m,seenB out m→Ags t out (fun a _=>a<i+1)→out.length≤200*(i+1)→L1 t out m ((i+1:Nat):Int) φ):∀ (d k:Nat) (out:List Int) (m:List (Int×Bool)),d+k=i→seenB out m→Ags t out (fun a b=>a<i∨a=i∧b<k)→out.length≤200*i+k→L2 t out m (t.Rows[i]) i (t.Rows.take i) ((t.Rows.take i).length:Int) k φ
 | 0,k,out,m,hd,hs,ho,hl=>by
  have:k=i:=by omega
  subst this
  apply L2_step
  rw [if_neg (by rw [List.length_take];omega),wrap_succ (by omega)]
  refine h out m hs (fun y=>?_) (by omega)
  rw [ho y]
  constructor
  ·rintro ⟨a,b,h1,h2,h3,h4⟩;exact ⟨a,b,by omega,h2,h3,h4⟩
  ·rintro ⟨a,b,h1,h2,h3,h4⟩;exact ⟨a,b,by omega,h2,h3,h4⟩
 | d+1,k,out,m,hd,hs,ho,hl=>by
  apply L2_step
  have hk:k<t.Rows.length:=by omega
  rw [if_pos (by rw [List.length_take];omega)]
  refine ⟨t.Rows[k],lget_of (by rw [List.getElem?_take,if_pos (by omega)];exact List.getElem?_eq_getElem hk),?_⟩
  have:=vals (t:=t) (out:=out) (m:=m) (i:=i) (k:=k) (φ:=φ) (p:=t.Rows.take i) ht hi (by omega) (by omega) hs (fun out' m' hs' hm hl'=>by
   refine pairs ht hi h2 h d (k+1) out' m' (by omega) hs' (fun y=>?_) (by omega)
   rw [hm,ho y]
   constructor
   ·rintro (⟨a,b,h1,h2,h3,h4⟩ | h1)
    ·exact ⟨a,b,by omega,h2,h3,h4⟩
    ·exact ⟨i,k,by omega,hi,by omega,h1⟩
   ·rintro ⟨a,b,h1,h2,h3,h4⟩
    by_cases hab:a=i∧b=k
    ·obtain ⟨rfl,rfl⟩:=hab;exact .inr h4
    ·exact .inl ⟨a,b,by omega,h2,h3,h4⟩) t.Attrs.length 0 (by omega)
  exact this
theorem spec {t:api_Table} (ht:TV t) (h2:t.Rows.length≤200):∃ out,C t out∧out.length≤40000∧Ags t out (fun _ _=>True):=by
 obtain ⟨r,r1,r2⟩:=enter t (fun out=>out.length≤40000∧Ags t out (fun _ _=>True)) (by
  have:∀ (d i:Nat) (out:List Int) (m:List (Int×Bool)),d+i=t.Rows.length→seenB out m→Ags t out (fun a _=>a<i)→out.length≤200*i→L1 t out m i (fun out=>out.length≤40000∧Ags t out (fun _ _=>True)):=by
   intro d
   induction d with
   | zero=>
    intro i out m hd hs ho hl
    apply L1_step
    rw [if_neg (by omega)]
    refine ⟨by omega,fun y=>?_⟩
    rw [ho y]
    constructor
    ·rintro ⟨a,b,h1,h2,h3,h4⟩;exact ⟨a,b,trivial,h2,h3,h4⟩
    ·rintro ⟨a,b,h1,h2,h3,h4⟩;exact ⟨a,b,by omega,h2,h3,h4⟩
   | succ d ih=>
    intro i out m hd hs ho hl
    have hi:i<t.Rows.length:=by omega
    apply L1_step
    rw [if_pos (by omega),Int.toNat_natCast,Nat.sub_zero]
    refine ⟨_,lget_of (List.getElem?_eq_getElem hi),by omega,by omega,?_⟩
    refine pairs ht hi h2 (fun out' m' hs' ho' hl'=>ih (i+1) out' m' (by omega) hs' ho' hl') i 0 out m (by omega) hs (fun y=>?_) (by omega)
    rw [ho y]
    constructor
    ·rintro ⟨a,b,h1,h2,h3,h4⟩;exact ⟨a,b,by omega,h2,h3,h4⟩
    ·rintro ⟨a,b,h1,h2,h3,h4⟩;exact ⟨a,b,by omega,h2,h3,h4⟩
  exact this _ 0 [] [] rfl (fun y=>by simp [mgetD,mget]) (fun y=>by simp) (by simp))
 exact ⟨r,r2,r1⟩
end armstrong_agrees
theorem meet_det {t:api_Table} (ht:TV t) (hn:t.Attrs.length≤10) {out:List Int} (ho:Ags t out (fun _ _=>True)) {x:Nat} (hx:x<2^t.Attrs.length):meetG (x:Int) ((2^t.Attrs.length-1:Nat):Int) out=((detN t t.Attrs.length x:Nat):Int):=by
 have hp:=pow16 (n:=t.Attrs.length) (by omega)
 have hu:AllU out:=fun y hy=>by
  obtain ⟨a,b,_,_,_,rfl⟩:=(ho y).1 hy
  exact U32.of (Nat.lt_of_lt_of_le agrN_lt (by omega))
 have hd:=detN_lt (t:=t) (n:=t.Attrs.length) (x:=x)
 obtain ⟨a,b⟩:=meetG_spec (s:=(x:Int)) (m:=((2^t.Attrs.length-1:Nat):Int)) hu (U32.of (by omega))
 refine a.ext (U32.of (by omega)) (Nat.eq_of_testBit_eq fun i=>Bool.eq_iff_iff.2 ?_)
 rw [b]
 simp only [sN_nat]
 rw [detN_bit,pow_bit,decide_eq_true_iff]
 refine and_congr_right fun hi=>?_
 rw [sat_iff ht (by omega) (Nat.pow_lt_pow_right (by omega) (by omega))]
 constructor
 ·intro h p q hp hq e c hc
  rw [bit_pow,decide_eq_true_iff] at hc
  subst hc
  have:=h _ ((ho _).2 ⟨p,q,trivial,hp,hq,rfl⟩) (by
   rw [sN_nat]
   exact fun b hb=>agrN_bit.2 ⟨lt_iff.1 hx b hb,e b hb⟩)
  rw [sN_nat] at this
  exact (agrN_bit.1 this).2
 ·intro h c hc hsub
  obtain ⟨p,q,_,hp,hq,rfl⟩:=(ho c).1 hc
  rw [sN_nat] at hsub
  rw [sN_nat]
  exact agrN_bit.2 ⟨hi,h p q hp hq (fun b hb=>(agrN_bit.1 (hsub b hb)).2) i (by rw [bit_pow];simp)⟩
theorem low_more {t:api_Table} {l:List api_FD} {n x:Nat} (hn:n≤16) (h:moreN t l n x≠0):(moreN t l n x).testBit (lowest (moreN t l n x) 32 0)=true∧∀ j,j<lowest (moreN t l n x) 32 0→(moreN t l n x).testBit j=false:=by
 have hp:=pow16 hn
 have hlt:=moreN_lt (t:=t) (l:=l) (n:=n) (x:=x)
 obtain ⟨j,hj,hb⟩:=ex_bit h (by omega)
 exact low_spec (fun j hj=>by omega) ⟨j,by omega,hb⟩
theorem extL_cons {t:api_Table} {l:List api_FD} {n:Nat} {y:Int} {r:List Int}:extL t l n (y::r)=if moreN t l n (sN y)=0 then extL t l n r else ({ Lhs:=y,Rhs:=((2^lowest (moreN t l n (sN y)) 32 0:Nat):Int) },0):=rfl
namespace armstrong_Extra
theorem meets {t:api_Table} {l:List api_FD} {out q:List Int} {i:Nat} {x:Nat} {φ:api_FD×Int→Prop} (hl:FdOK l) (hlen:l.length<1000000000) (h0:errT t l=0) (ho:Ags t out (fun _ _=>True)) (hol:out.length≤40000) (hx:x<2^t.Attrs.length) (hi:i<100000)
  (h:if moreN t l t.Attrs.length x=0 then L1 l (t.Attrs.length:Int) out q ((i+1:Nat):Int) φ else φ ({ Lhs:=(x:Int),Rhs:=((2^lowest (moreN t l t.Attrs.length x) 32 0:Nat):Int) },0)):∀ (r:List Int) (k:Nat) (m:Int),out.drop k=r→meetG (x:Int) m r=meetG (x:Int) ((2^t.Attrs.length-1:Nat):Int) out→L2 l (t.Attrs.length:Int) out (x:Int) m q i k φ
 | [],k,m,hd,he=>by
  obtain ⟨g1,g2,g3,g4⟩:=errT_ok h0
  have hp:=pow16 (n:=t.Attrs.length) (by omega)
  have:=drop_ge hd
  have he:m=meetG (x:Int) ((2^t.Attrs.length-1:Nat):Int) out:=he
  rw [meet_det g1 g3 ho hx] at he
  subst he
  have hcl:cloN l x<2^t.Attrs.length:=cloN_lt (fun d hd=>(g4 d hd).2) hx
  have hdt:=detN_lt (t:=t) (n:=t.Attrs.length) (x:=x)
  have e:bAndNot .u32 ((detN t t.Attrs.length x:Nat):Int) ((cloN l x:Nat):Int)=((moreN t l t.Attrs.length x:Nat):Int):=bAndNot_nat (k:=.u32) (by simp only [top];omega) (by simp only [top];omega)
  have hmt:=moreN_lt (t:=t) (l:=l) (n:=t.Attrs.length) (x:=x)
  apply L2_step
  rw [if_neg (by omega)]
  refine ⟨_,closure_Close.spec hl hlen (s:=x) (by omega),?_⟩
  rw [e]
  by_cases hm:moreN t l t.Attrs.length x=0
  ·rw [if_pos hm] at h
   rw [if_pos (by omega),wrap_succ (by omega)];exact h
  ·rw [if_neg hm] at h
   obtain ⟨l1,l2⟩:=low_more (t:=t) (l:=l) (n:=t.Attrs.length) (x:=x) (by omega) hm
   rw [if_neg (by omega),low_and (by omega) l1 l2];exact h
 | c::r,k,m,hd,he=>by
  obtain ⟨g1,g2,g3,g4⟩:=errT_ok h0
  have hp:=pow16 (n:=t.Attrs.length) (by omega)
  have hlt:=drop_lt hd
  have hc:U32 c:=by
   obtain ⟨a,b,_,_,_,rfl⟩:=(ho c).1 (List.mem_of_getElem? (drop_get hd))
   exact U32.of (Nat.lt_of_lt_of_le agrN_lt (by omega))
  have hxu:U32 (x:Int):=U32.of (by omega)
  have next:L3 l (t.Attrs.length:Int) out (x:Int) (meetT (x:Int) m c) q i k φ:=by
   apply L3_step
   rw [wrap_succ (by omega)]
   exact meets hl hlen h0 ho hol hx hi h r (k+1) _ (drop_next hd) he
  apply L2_step
  rw [if_pos (by omega)]
  refine ⟨c,lget_drop hd,?_⟩
  unfold meetT at next
  by_cases hs:sN (x:Int) &&& sN c=sN (x:Int)
  ·rw [if_pos hs] at next
   rw [if_pos ((and_sub hc hxu).2 hs)];exact next
  ·rw [if_neg hs] at next
   rw [if_neg (fun hh=>hs ((and_sub hc hxu).1 hh))];exact next
theorem sets {t:api_Table} {l:List api_FD} {out:List Int} {φ:api_FD×Int→Prop} (hl:FdOK l) (hlen:l.length<1000000000) (h0:errT t l=0) (ho:Ags t out (fun _ _=>True)) (hol:out.length≤40000):∀ (r:List Int) (k:Nat),(subsF (2^t.Attrs.length-1)).drop k=r→φ (extL t l t.Attrs.length r)→L1 l (t.Attrs.length:Int) out (subsF (2^t.Attrs.length-1)) k φ
 | [],k,hd,h=>by
  have:=drop_ge hd
  apply L1_step
  rw [if_neg (by omega)];exact h
 | y::r,k,hd,h=>by
  obtain ⟨g1,g2,g3,g4⟩:=errT_ok h0
  have hp:=pow16 (n:=t.Attrs.length) (by omega)
  have hlt:=drop_lt hd
  have hsl:=subs_len (n:=t.Attrs.length) (by omega)
  obtain ⟨x,rfl,hx⟩:=(subs_mem (by omega)).1 (List.mem_of_getElem? (drop_get hd))
  rw [extL_cons,sN_nat] at h
  apply L1_step
  rw [if_pos (by omega)]
  refine ⟨_,lget_drop hd,_,armstrong_full.spec (by omega),?_⟩
  refine meets hl hlen h0 ho hol hx (by omega) ?_ out 0 _ rfl rfl
  by_cases hm:moreN t l t.Attrs.length x=0
  ·rw [if_pos hm] at h ⊢
   exact sets hl hlen h0 ho hol r (k+1) (drop_next hd) h
  ·rw [if_neg hm] at h ⊢
   exact h
theorem spec {t:api_Table} {l:List api_FD} (hl:FdOK l) (hlen:l.length<1000000000):C t l (extraF t l):=by
 obtain ⟨r,h1,h2⟩:=enter t l (fun r=>r=extraF t l) (by
  refine ⟨_,armstrong_checkTable.spec hl,?_⟩
  unfold extraF
  split
  ·rename_i h0
   obtain ⟨g1,g2,g3,g4⟩:=errT_ok h0
   have hp:=pow16 (n:=t.Attrs.length) (by omega)
   obtain ⟨out,o1,o2,o3⟩:=armstrong_agrees.spec g1 g2
   exact ⟨out,o1,_,armstrong_full.spec (by omega),_,attrset_Subsets.spec (by omega),sets hl hlen h0 o3 o2 _ 0 rfl rfl⟩
  ·rfl)
 rw [← h1];exact h2
end armstrong_Extra
theorem armstrong_Broken_1.spec {t:api_Table} {l:List api_FD} (hnum:TNum t) (h0:errT t l=0) (hl:FdOK l) {d:api_FD} (hd:d∈l):armstrong_Broken_1.C d t.Name t.Attrs t.Rows (!satB t (sN d.Lhs) (sN d.Rhs)):=by
 obtain ⟨g1,g2,g3,g4⟩:=errT_ok h0
 obtain ⟨u1,u2⟩:=hl d hd
 obtain ⟨v1,v2⟩:=g4 d hd
 obtain ⟨q,q1,q2,q3⟩:=partition_Holds.spec (t:=t) (fd:=d) hnum u1.eq u2.eq u1.lt u2.lt
 have hh:holdsE t (sN d.Lhs) (sN d.Rhs)=0:=by
  unfold holdsE
  rw [if_pos (tableF_iff.2 g1),if_pos (Nat.or_lt_two_pow v1 v2)]
 obtain ⟨r,h1,h2⟩:=armstrong_Broken_1.enter d t.Name t.Attrs t.Rows (fun r=>r=!satB t (sN d.Lhs) (sN d.Rhs)) ⟨q,q1,by
  have:q.1=satB t (sN d.Lhs) (sN d.Rhs):=Bool.eq_iff_iff.2 (by rw [q3,satB_iff,hh];simp)
  rw [this]⟩
 rw [← h1];exact h2
theorem brk_ix {t:api_Table}:∀ {l:List api_FD} {k:Nat},(ixFrom (fun d=>!satB t (sN d.Lhs) (sN d.Rhs)) l k = -1∧brkL t l=({ Lhs:=0,Rhs:=0 },4))∨∃ (n:Nat) (d:api_FD),ixFrom (fun d=>!satB t (sN d.Lhs) (sN d.Rhs)) l k=((k+n:Nat):Int)∧l[n]? = some d∧brkL t l=(d,0)
 | [],k=>.inl ⟨rfl,rfl⟩
 | d::l,k=>by
  by_cases h:satB t (sN d.Lhs) (sN d.Rhs)=true
  ·rcases brk_ix (t:=t) (l:=l) (k:=k+1) with ⟨h1,h2⟩ | ⟨n,e,h1,h2,h3⟩
   ·left
    refine ⟨?_,by rw [brkL,if_pos h];exact h2⟩
    rw [ixFrom,if_neg (by rw [h];decide)];exact h1
   ·right
    refine ⟨n+1,e,?_,by simpa using h2,by rw [brkL,if_pos h];exact h3⟩
    rw [ixFrom,if_neg (by rw [h];decide),h1];congr 1;omega
  ·right
   have h':satB t (sN d.Lhs) (sN d.Rhs)=false:=by simpa using h
   refine ⟨0,d,?_,rfl,by rw [brkL,if_neg h]⟩
   rw [ixFrom,if_pos (by rw [h'];rfl)];rfl
theorem armstrong_Broken.spec {t:api_Table} {l:List api_FD} (hnum:TNum t) (hl:FdOK l) (hlen:l.length<1000000000):armstrong_Broken.C t l (brkF t l):=by
 obtain ⟨r,h1,h2⟩:=armstrong_Broken.enter t l (fun r=>r=brkF t l) (by
  refine ⟨_,armstrong_checkTable.spec hl,?_⟩
  unfold brkF
  split
  ·rename_i h0
   obtain ⟨g1,g2,g3,g4⟩:=errT_ok h0
   obtain ⟨q,q1,q2⟩:=slices_IndexFunc_sapi_FD_api_FD_armstrong_Broken_1.enter l t.Name t.Attrs t.Rows (fun r=>r=ixI (fun d=>!satB t (sN d.Lhs) (sN d.Rhs)) l) (by
    refine index_loop (l:=l) (p:=fun d=>!satB t (sN d.Lhs) (sN d.Rhs)) (L:=fun i=>slices_IndexFunc_sapi_FD_api_FD_armstrong_Broken_1.L1 l t.Name t.Attrs t.Rows i _) (φ:=fun r=>r=ixI (fun d=>!satB t (sN d.Lhs) (sN d.Rhs)) l) (fun h=>?_) (fun k d hk hlt h=>?_) rfl
    ·apply slices_IndexFunc_sapi_FD_api_FD_armstrong_Broken_1.L1_step
     rw [if_neg (by omega)];exact h
    ·apply slices_IndexFunc_sapi_FD_api_FD_armstrong_Broken_1.L1_step
     rw [if_pos (by omega)]
     refine ⟨d,lget_of hk,_,armstrong_Broken_1.spec hnum h0 hl (List.mem_of_getElem? hk),?_⟩
     rw [wrap_succ (by omega)];exact h)
   subst q1
   refine ⟨_,q2,?_⟩
   rcases brk_ix (t:=t) (l:=l) (k:=0) with ⟨a1,a2⟩ | ⟨n,d,a1,a2,a3⟩
   ·have:ixI (fun d=>!satB t (sN d.Lhs) (sN d.Rhs)) l = -1:=a1
    rw [this,if_pos (by omega),a2]
   ·have:ixI (fun d=>!satB t (sN d.Lhs) (sN d.Rhs)) l=((n:Nat):Int):=by rw [Nat.zero_add] at a1;exact a1
    rw [this,if_neg (by omega),a3]
    exact ⟨d,lget_of a2,rfl⟩
  ·rfl)
 rw [← h1];exact h2
theorem armstrong_Exact.spec {t:api_Table} {l:List api_FD} (hnum:TNum t) (hl:FdOK l) (hlen:l.length<1000000000):armstrong_Exact.C t l (exactF t l):=by
 obtain ⟨r,h1,h2⟩:=armstrong_Exact.enter t l (fun r=>r=exactF t l) (by
  refine ⟨_,armstrong_checkTable.spec hl,?_⟩
  unfold exactF
  split
  ·rename_i h0
   refine ⟨_,armstrong_Extra.spec hl hlen,_,armstrong_Broken.spec hnum hl hlen,?_⟩
   have he:=exB_parts h0
   by_cases h4:(extraF t l).2=4
   ·rw [if_pos h4]
    refine Prod.ext (Bool.eq_iff_iff.2 ?_) rfl
    rw [he,beq_iff_eq];simp [h4]
   ·rw [if_neg h4]
    refine Prod.ext (Bool.eq_iff_iff.2 ?_) rfl
    rw [he];simp [h4]
  ·rfl)
 rw [← h1];exact h2
end Go.Own
namespace Go.Own
namespace drossref19_Exact
theorem atts {t:api_Table} {l:List api_FD} {x:Nat} (hl:FdOK l) (hlen:l.length<1000000000) (h0:errT t l=0) (hx:x<2^t.Attrs.length) (hf:¬ ExactP t l t.Attrs.length→exB t l t.Attrs.length=false)
  (h:(∀ a,a<t.Attrs.length→(SatP t x (2^a)↔(cloN l x).testBit a=true))→L1 t l ((x+1:Nat):Int) (fun r=>r=(exB t l t.Attrs.length,0))):∀ (d a:Nat),d+a=t.Attrs.length→(∀ j,j<a→(SatP t x (2^j)↔(cloN l x).testBit j=true))→L2 t l x a (fun r=>r=(exB t l t.Attrs.length,0))
 | 0,a,hd,hz=>by
  obtain ⟨g1,g2,g3,g4⟩:=errT_ok h0
  have hp:=pow16 (n:=t.Attrs.length) (by omega)
  apply L2_step
  have ew:IntKind.wrap .u32 ((x:Int)+1)=((x+1:Nat):Int):=by
   rw [show (x:Int)+1=((x+1:Nat):Int) by omega]
   exact wrap_top (k:=.u32) (by simp only [top];omega)
  rw [if_neg (by omega),ew]
  exact h fun a ha=>hz a (by omega)
 | d+1,a,hd,hz=>by
  obtain ⟨g1,g2,g3,g4⟩:=errT_ok h0
  have hp:=pow16 (n:=t.Attrs.length) (by omega)
  have hxu:U32 (x:Int):=U32.of (by omega)
  have hub:U32 ((2^a:Nat):Int):=u32_bit (by omega)
  apply L2_step
  rw [if_pos (by omega),shl_bit (by omega)]
  have him:=drossref09_Implies.spec (d:={ Lhs:=(x:Int),Rhs:=((2^a:Nat):Int) }) hl hlen hxu hub
  rw [impB_bit] at him
  refine ⟨by omega,_,drossref19_Holds.spec (fd:={ Lhs:=(x:Int),Rhs:=((2^a:Nat):Int) }) g1 hxu hub,_,him,?_⟩
  simp only [sN_nat]
  split
  ·rename_i hb
   rw [wrap_succ (by omega)]
   refine atts hl hlen h0 hx hf h d (a+1) (by omega) fun j hj=>?_
   by_cases hja:j=a
   ·subst hja;rw [← satB_iff,hb]
   ·exact hz j (by omega)
  ·rename_i hb
   have:¬ ExactP t l t.Attrs.length:=fun hx'=>hb (Bool.eq_iff_iff.2 (satB_iff.trans (hx' x a hx (by omega))))
   rw [hf this]
theorem spec {t:api_Table} {l:List api_FD} (hl:FdOK l) (hlen:l.length<1000000000):C t l (exactF t l):=by
 obtain ⟨r,h1,h2⟩:=enter t l (fun r=>r=exactF t l) (by
  refine ⟨_,drossref19_TableError.spec hl,?_⟩
  unfold exactF
  split
  ·rename_i h0
   obtain ⟨g1,g2,g3,g4⟩:=errT_ok h0
   have hp:=pow16 (n:=t.Attrs.length) (by omega)
   have hf:¬ ExactP t l t.Attrs.length→exB t l t.Attrs.length=false:=fun hn=>by
    cases hb:exB t l t.Attrs.length with
    | false=>rfl
    | true=>exact absurd (exB_iff.1 hb) hn
   have:∀ (d x:Nat),2^t.Attrs.length-x≤d→x≤2^t.Attrs.length→(∀ s,s<x→∀ a,a<t.Attrs.length→(SatP t s (2^a)↔(cloN l s).testBit a=true))→L1 t l x (fun r=>r=(exB t l t.Attrs.length,0)):=by
    intro d
    induction d with
    | zero=>
     intro x h1 h2 h3
     apply L1_step
     refine ⟨_,full_spec (by omega),?_⟩
     rw [if_neg (by omega)]
     have:ExactP t l t.Attrs.length:=fun s a hs ha=>h3 s (by omega) a ha
     rw [exB_iff.2 this]
    | succ d ih=>
     intro x h1 h2 h3
     apply L1_step
     refine ⟨_,full_spec (by omega),?_⟩
     by_cases hlt:x<2^t.Attrs.length
     ·rw [if_pos (by omega)]
      refine atts hl hlen h0 hlt hf (fun ha=>ih (x+1) (by omega) (by omega) fun s hs=>?_) _ 0 rfl (fun j hj=>by omega)
      by_cases hsx:s=x
      ·subst hsx;exact ha
      ·exact h3 s (by omega)
     ·rw [if_neg (by omega)]
      have:ExactP t l t.Attrs.length:=fun s a hs ha=>h3 s (by omega) a ha
      rw [exB_iff.2 this]
   exact this _ 0 (Nat.sub_le _ _) (Nat.zero_le _) (fun s hs=>by omega)
  ·rfl)
 rw [← h1];exact h2
end drossref19_Exact
end Go.Own
