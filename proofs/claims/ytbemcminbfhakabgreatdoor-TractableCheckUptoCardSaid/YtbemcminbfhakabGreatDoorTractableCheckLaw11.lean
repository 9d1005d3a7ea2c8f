/- What the functions that the law reaches answer. No conditions. -/
import Derived.Test.YtbemcminbfhakabGreatDoorTractableCheckLaw4
import Derived.Test.YtbemcminbfhakabGreatDoorTractableCheckLaw9
import Derived.Test.YtbemcminbfhakabGreatDoorTractableCheckLaw10
import Derived.Test.YtbemcminbfhakabGreatDoorTractableCheckLaw6
import Derived.Test.YtbemcminbfhakabGreatDoorTractableCheckLaw1
import Derived.Test.YtbemcminbfhakabGreatDoorBase2
import Derived.Test.YtbemcminbfhakabGreatDoorOwn25
set_option linter.all false
namespace Go.Own
def ltS (x y:Int):Bool:=decide (keyS x<keyS y)
theorem ltS_swo:Go.Sort.SWO ltS where
 irrefl:=fun x=>by unfold ltS;simp
 trans:=fun x y z h1 h2=>by unfold ltS at *;simp only [decide_eq_true_eq] at *;omega
 ntrans:=fun x y z h1 h2=>by unfold ltS at *;simp only [decide_eq_false_iff_not] at *;omega
theorem cmp_Compare_int.spec {x y:Int}:cmp_Compare_int.C x y (cmpI x y):=by
 obtain ⟨f1,g1,k1⟩:=cmp_isNaN_int.enter x (fun r=>r=false) (by simp)
 obtain ⟨f2,g2,k2⟩:=cmp_isNaN_int.enter y (fun r=>r=false) (by simp)
 subst g1 g2
 obtain ⟨r,h1,h2⟩:=cmp_Compare_int.enter x y (fun r=>r=cmpI x y) (by
  refine ⟨_,k1,_,k2,?_⟩
  rw [if_neg (by decide),if_neg (by decide)]
  unfold cmpI
  split
  ·rfl
  ·split<;>rfl)
 rw [← h1];exact h2
theorem cmp_Compare_api_Set.spec {x y:Int}:cmp_Compare_api_Set.C x y (cmpI x y):=by
 obtain ⟨f1,g1,k1⟩:=cmp_isNaN_api_Set.enter x (fun r=>r=false) (by simp)
 obtain ⟨f2,g2,k2⟩:=cmp_isNaN_api_Set.enter y (fun r=>r=false) (by simp)
 subst g1 g2
 obtain ⟨r,h1,h2⟩:=cmp_Compare_api_Set.enter x y (fun r=>r=cmpI x y) (by
  refine ⟨_,k1,_,k2,?_⟩
  rw [if_neg (by decide),if_neg (by decide)]
  unfold cmpI
  split
  ·rfl
  ·split<;>rfl)
 rw [← h1];exact h2
theorem cmp_Or_int.two {a b:Int}:cmp_Or_int.C [a,b] (if a=0 then b else a):=by
 obtain ⟨r,h1,h2⟩:=cmp_Or_int.enter [a,b] (fun r=>r=if a=0 then b else a) (by
  apply cmp_Or_int.L1_step
  rw [if_pos (by simp)]
  refine ⟨a,rfl,?_⟩
  by_cases ha:a=0
  ·rw [if_pos ha]
   apply cmp_Or_int.L1_step
   have e:IntKind.wrap .i64 ((0:Int)+1)=1:=by decide
   rw [e,if_pos (by simp)]
   refine ⟨b,rfl,?_⟩
   by_cases hb:b=0
   ·rw [if_pos hb]
    apply cmp_Or_int.L1_step
    have e:IntKind.wrap .i64 ((1:Int)+1)=2:=by decide
    rw [e,if_neg (by simp),if_pos ha,hb]
   ·rw [if_neg hb,if_pos ha]
  ·rw [if_neg ha,if_neg ha])
 rw [← h1];exact h2
theorem cmpS_ok:CmpOK U32 ltS attrset_compare.C:=fun x y hx hy=>by
 obtain ⟨r,h1,h2⟩:=attrset_compare.enter x y (fun r=>r<0↔ltS x y=true) (by
  refine ⟨_,attrset_Size.spec hx,_,attrset_Size.spec hy,_,cmp_Compare_int.spec,_,cmp_Compare_api_Set.spec,_,cmp_Or_int.two,?_⟩
  unfold ltS
  rw [decide_eq_true_eq,keyS_lt hx hy]
  have ex:=hx.eq
  have ey:=hy.eq
  unfold cmpI
  generalize szN (sN x)=s at *
  generalize szN (sN y)=t at *
  by_cases h1:(s:Int)<t
  ·rw [if_pos h1,if_neg (by decide)];omega
  ·rw [if_neg h1]
   by_cases h2:(t:Int)<s
   ·rw [if_pos h2,if_neg (by decide)];omega
   ·rw [if_neg h2,if_pos rfl]
    split
    ·omega
    ·split<;>omega)
 exact ⟨r,h2,h1⟩
end Go.Own
namespace Go.Own
theorem compactL_snoc:∀ (l:List Int) (a b:Int),compactL (l++[a]++[b])=if a=b then compactL (l++[a]) else compactL (l++[a])++[b]
 | [],a,b=>by
  simp only [List.nil_append,List.singleton_append,compactL]
  split<;>simp_all
 | [c],a,b=>by
  simp only [List.singleton_append,List.cons_append,List.nil_append,compactL]
  split<;>split<;>simp_all
 | c::d::r,a,b=>by
  have ih:=compactL_snoc (d::r) a b
  simp only [List.cons_append,compactL] at ih ⊢
  rw [ih]
  split<;>split<;>simp
theorem take_snoc {l:List Int} {m:Nat} {a:Int} (h:l[m]? = some a):l.take (m+1)=l.take m++[a]:=by
 rw [List.take_add_one,h];rfl
theorem compact_step {l:List Int} {m:Nat} {a b:Int} (ha:l[m]? = some a) (hb:l[m+1]? = some b):compactL (l.take (m+2))=if a=b then compactL (l.take (m+1)) else compactL (l.take (m+1))++[b]:=by
 have e1:l.take (m+2)=l.take m++[a]++[b]:=by rw [take_snoc (m:=m+1) hb,take_snoc ha]
 rw [e1,take_snoc ha,compactL_snoc]
namespace slices_Compact_sapi_Set_api_Set
theorem inner {l:List Int} {o:Nat} {φ:List Int×Bool→Prop} (ho:1≤o) (hol:o<l.length) (hl:l.length<4611686018427387904) (h:∀ b,φ (compactL l,b)) (n:Nat):∀ (s:List Int) (k k2:Nat),l.length-o-k2≤n→1≤k2→o+k2≤l.length→s.length=l.length→k≤o+k2-1→s.take k=compactL (l.take (o+k2))→(∀ i,o+k2-1≤i→s[i]? = l[i]?)→L2 s k o (l.length-o) k2 φ:=by
 have hend:∀ (s:List Int) (k k2:Nat),o+k2=l.length→s.length=l.length→k≤o+k2-1→s.take k=compactL (l.take (o+k2))→L2 s k o (l.length-o) k2 φ:=fun s k k2 hk2 hs hk ht=>by
  apply L2_step
  refine ⟨by omega,?_⟩
  rw [if_neg (by rw [List.length_take,List.length_drop];omega)]
  refine ⟨by omega,⟨by omega,by omega⟩,by omega,by omega,by omega,by omega,⟨by omega,by omega,by omega⟩,?_⟩
  rw [Int.toNat_natCast]
  have e:s.take k=compactL l:=by rw [ht,List.take_of_length_le (by omega)]
  rw [e]
  exact h _
 induction n with
 | zero=>intro s k k2 hn h1 hk2 hs hk ht hd;exact hend s k k2 (by omega) hs hk ht
 | succ n ih=>
  intro s k k2 hn h1 hk2 hs hk ht hd
  by_cases hlt:o+k2<l.length
  ·apply L2_step
   refine ⟨by omega,?_⟩
   rw [if_pos (by rw [List.length_take,List.length_drop];omega)]
   obtain ⟨b,hb⟩:∃ b,l[o+k2]? = some b:=⟨_,List.getElem?_eq_getElem hlt⟩
   obtain ⟨a,ha⟩:∃ a,l[o+k2-1]? = some a:=⟨_,List.getElem?_eq_getElem (by omega)⟩
   have e1:(o:Int)+(k2:Int)=((o+k2:Nat):Int):=by omega
   have e2:IntKind.wrap .i64 ((k2:Int)-1)=((k2-1:Nat):Int):=wx _ _ (by omega) (by omega)
   have e3:(o:Int)+((k2-1:Nat):Int)=((o+k2-1:Nat):Int):=by omega
   have e4:IntKind.wrap .i64 ((k2:Int)+1)=((k2+1:Nat):Int):=wx _ _ (by omega) (by omega)
   have e5:IntKind.wrap .i64 ((k:Int)+1)=((k+1:Nat):Int):=wx _ _ (by omega) (by omega)
   rw [e1,e2,e3]
   have hstep:=compact_step (l:=l) (m:=o+k2-1) ha (by rw [show o+k2-1+1=o+k2 by omega];exact hb)
   rw [show o+k2-1+2=o+(k2+1) by omega,show o+k2-1+1=o+k2 by omega] at hstep
   refine ⟨b,by rw [lget_nat,hd _ (by omega)];exact hb,⟨by omega,by omega⟩,by omega,a,by rw [lget_nat,hd _ (by omega)];exact ha,⟨by omega,by omega⟩,by omega,?_⟩
   by_cases hab:b=a
   ·rw [if_pos hab]
    apply L3_step
    rw [e4]
    rw [if_pos hab.symm] at hstep
    exact ih s k (k2+1) (by omega) (by omega) (by omega) hs (by omega) (by rw [ht,hstep]) (fun i hi=>hd i (by omega))
   ·rw [if_neg hab]
    rw [if_neg (fun h=>hab h.symm)] at hstep
    obtain ⟨c,hc⟩:∃ c,s[k]? = some c:=⟨_,List.getElem?_eq_getElem (by omega)⟩
    refine ⟨⟨by omega,by omega⟩,by omega,c,by rw [lget_nat];exact hc,?_⟩
    apply L3_step
    rw [e4,e5]
    have hls:lset s (k:Int) b=s.set k b:=by unfold lset;rw [Int.toNat_natCast]
    rw [hls]
    refine ih (s.set k b) (k+1) (k2+1) (by omega) (by omega) (by omega) (by rw [List.length_set];exact hs) (by omega) ?_ (fun i hi=>?_)
    ·rw [hstep,← ht,take_snoc (a:=b) (by rw [List.getElem?_set_self (by omega)])]
     congr 1
     rw [List.take_set_of_le (Nat.le_refl k)]
    ·rw [List.getElem?_set_ne (by omega)]
     exact hd i (by omega)
  ·exact hend s k k2 (by omega) hs hk ht
theorem outer {l:List Int} {φ:List Int×Bool→Prop} (hl:l.length<4611686018427387904) (h:∀ b,φ (compactL l,b)) (n:Nat):∀ i,l.length-i≤n→1≤i→i≤l.length→compactL (l.take i)=l.take i→L1 l i φ:=by
 induction n with
 | zero=>
  intro i hn h1 hi hc
  apply L1_step
  rw [if_neg (by omega)]
  have e:i=l.length:=by omega
  rw [e,List.take_length] at hc
  have:=h true
  rwa [hc] at this
 | succ n ih=>
  intro i hn h1 hi hc
  by_cases hlt:i<l.length
  ·apply L1_step
   rw [if_pos (by omega)]
   obtain ⟨b,hb⟩:∃ b,l[i]? = some b:=⟨_,List.getElem?_eq_getElem hlt⟩
   obtain ⟨a,ha⟩:∃ a,l[i-1]? = some a:=⟨_,List.getElem?_eq_getElem (by omega)⟩
   have e2:IntKind.wrap .i64 ((i:Int)-1)=((i-1:Nat):Int):=wx _ _ (by omega) (by omega)
   have e4:IntKind.wrap .i64 ((i:Int)+1)=((i+1:Nat):Int):=wx _ _ (by omega) (by omega)
   rw [e2,e4]
   have hstep:=compact_step (l:=l) (m:=i-1) ha (by rw [show i-1+1=i by omega];exact hb)
   rw [show i-1+2=i+1 by omega,show i-1+1=i by omega] at hstep
   refine ⟨b,by rw [lget_nat];exact hb,a,by rw [lget_nat];exact ha,?_⟩
   by_cases hab:b=a
   ·rw [if_pos hab]
    rw [if_pos hab.symm] at hstep
    refine ⟨by omega,⟨by omega,by omega⟩,?_⟩
    rw [Int.toNat_natCast]
    exact inner (o:=i) h1 hlt hl h (l.length-i-1) l i 1 (Nat.le_refl _) (Nat.le_refl _) (by omega) rfl (by omega) (by rw [hstep,hc]) (fun _ _=>rfl)
   ·rw [if_neg hab]
    rw [if_neg (fun h=>hab h.symm)] at hstep
    exact ih (i+1) (by omega) (by omega) (by omega) (by rw [hstep,hc,take_snoc hb])
  ·apply L1_step
   rw [if_neg (by omega)]
   have e:i=l.length:=by omega
   rw [e,List.take_length] at hc
   have:=h true
   rwa [hc] at this
theorem spec {l:List Int} (hl:l.length<4611686018427387904):∃ b,C l (compactL l,b):=by
 obtain ⟨r,⟨b,rfl⟩,h2⟩:=enter l (fun r=>∃ b,r=(compactL l,b)) (by
  split
  ·rename_i h
   refine ⟨true,?_⟩
   match l,h with
   | [],_=>rfl
   | [a],_=>rfl
   | _::_::_,h=>simp at h;omega
  ·rename_i h
   have:1≤l.length:=by omega
   exact outer hl (fun b=>⟨b,rfl⟩) (l.length-1) 1 (by omega) (by omega) this (by
    obtain ⟨a,r,rfl⟩:∃ a r,l=a::r:=by cases l with
     | nil=>simp at this
     | cons a r=>exact ⟨a,r,rfl⟩
    rfl))
 exact ⟨b,h2⟩
end slices_Compact_sapi_Set_api_Set
end Go.Own
namespace Go.Own
theorem attrset_Order.spec {l:List Int} (hl:l.length≤35184372088832) (hu:AllU l):attrset_Order.C l (ordL l):=by
 obtain ⟨r,h1,h2⟩:=attrset_Order.enter l (fun r=>r=ordL l) (by
  obtain ⟨s,c,hp,ha⟩:=slices_SortFunc_sapi_Set_api_Set_attrset_compare.spec cmpS_ok ltS_swo (l:=l) (by omega) hu
  have hlen:=hp.length_eq
  obtain ⟨b,c2⟩:=slices_Compact_sapi_Set_api_Set.spec (l:=s) (by omega)
  refine ⟨by omega,s,c,_,c2,?_⟩
  have hus:AllU s:=fun x hx=>hu x (hp.mem_iff.1 hx)
  refine ordL_eq hu (compactL_asc hus (ha.imp fun h=>?_)) fun y=>by rw [compactL_mem,hp.mem_iff]
  unfold ltS at h
  simp only [decide_eq_false_iff_not] at h
  omega)
 rw [← h1];exact h2
theorem drossref02_Size.spec {x:Int} (hx:U32 x):drossref02_Size.C x (szN (sN x):Int):=by
 have:=drossref02_Members.spec hx.lt
 rw [← hx.eq] at this
 obtain ⟨r,h1,h2⟩:=drossref02_Size.enter x (fun r=>r=(szN (sN x):Int)) ⟨_,this,by rw [List.length_map];rfl⟩
 rw [← h1];exact h2
end Go.Own
namespace Go.Own
end Go.Own
namespace Go.Own
theorem pow16 {n:Nat} (hn:n≤16):2^n≤65536∧0<2^n:=⟨Nat.pow_le_pow_right (n:=2) (by omega) hn,Nat.pow_pos (by omega)⟩
end Go.Own
namespace Go.Own
theorem passN_cons (d:api_FD) (l:List api_FD) (s:Nat):passN (d::l) s=passN l (if sN d.Lhs &&& s=sN d.Lhs then s ||| sN d.Rhs else s):=rfl
theorem andNot_zero {a:Int} {s:Nat} (ha:U32 a) (hs:s<2^32):bAndNot .u32 a s=0↔sN a &&& s=sN a:=by
 have e:bAndNot .u32 a s=((ndiff (sN a) s:Nat):Int):=by
  conv=>lhs;rw [ha.eq]
  exact bAndNot_nat ha.top (by simpa [top] using hs)
 rw [e,sub_iff,← ndiff_zero];omega
theorem or_nat {a:Int} {s:Nat} (ha:U32 a) (hs:s<2^32):bOr .u32 s a=((s ||| sN a:Nat):Int):=by
 conv=>lhs;rw [ha.eq]
 exact bOr_nat (by simpa [top] using hs) ha.top
theorem sub_spec {a:Int} {s:Nat} (ha:U32 a) (hs:s<2^32):drossref02_Sub.C a s (decide (sN a &&& s=sN a)):=by
 have:=drossref02_Sub.spec (a:=sN a) (b:=s) ha.lt hs
 rw [← ha.eq] at this;exact this
namespace closure_Close
theorem pass {l:List api_FD} (hl:FdOK l) (hn:l.length<1000000000) {b:Int} {φ:Int→Prop}:∀ (r:List api_FD) (k s:Nat),l.drop k=r→s<2^32→(if ((passN r s:Nat):Int)=b then φ ((passN r s:Nat):Int) else L1 l ((passN r s:Nat):Int) φ)→L2 l s b k φ:=by
 intro r
 induction r with
 | nil=>
  intro k s hd hs h
  have:=drop_ge hd
  apply L2_step
  rw [if_neg (by omega)]
  exact h
 | cons d r ih=>
  intro k s hd hs h
  have hlt:=drop_lt hd
  have hd':=hl d (List.mem_of_getElem? (drop_get hd))
  apply L2_step
  rw [if_pos (by omega)]
  refine ⟨d,lget_drop hd,?_⟩
  rw [passN_cons] at h
  by_cases hz:sN d.Lhs &&& s=sN d.Lhs
  ·rw [if_pos ((andNot_zero hd'.1 hs).2 hz),or_nat hd'.2 hs]
   rw [if_pos hz] at h
   apply L3_step
   rw [wrap_succ (by omega)]
   exact ih (k+1) _ (drop_next hd) (Nat.or_lt_two_pow hs hd'.2.lt) h
  ·rw [if_neg (fun hh=>hz ((andNot_zero hd'.1 hs).1 hh))]
   rw [if_neg hz] at h
   apply L3_step
   rw [wrap_succ (by omega)]
   exact ih (k+1) s (drop_next hd) hs h
theorem loop {l:List api_FD} (hl:FdOK l) (hn:l.length<1000000000) {φ:Int→Prop}:∀ (k s:Nat),s<2^32→33≤k+szN s→φ ((passK l k s:Nat):Int)→L1 l s φ
 | 0,s,hs,hk,h=>by have:=bitsOf_len (n:=s);unfold szN at hk;omega
 | k+1,s,hs,hk,h=>by
  have hr:∀ d∈l,sN d.Rhs<2^32:=fun d hd=>(hl d hd).2.lt
  apply L1_step
  refine pass hl hn l 0 s rfl hs ?_
  rw [passK] at h
  by_cases hz:passN l s=s
  ·rw [if_pos (by rw [hz]),hz]
   rw [hz,passK_fix hz] at h
   exact h
  ·rw [if_neg (by omega)]
   have:=szN_lt (passN_up (l:=l)) (Ne.symm hz) (passN_lt hs hr)
   exact loop hl hn k _ (passN_lt hs hr) (by omega) h
theorem spec {l:List api_FD} (hl:FdOK l) (hn:l.length<1000000000) {s:Nat} (hs:s<2^32):C l s ((cloN l s:Nat):Int):=by
 obtain ⟨r,h1,h2⟩:=enter l s (fun r=>r=((cloN l s:Nat):Int)) (loop hl hn 33 s hs (by omega) rfl)
 rw [← h1];exact h2
end closure_Close
namespace drossref09_Close
theorem pass {l:List api_FD} (hl:FdOK l) (hn:l.length<1000000000) {b:Int} {φ:Int→Prop}:∀ (r:List api_FD) (k s:Nat),l.drop k=r→s<2^32→(if ((passN r s:Nat):Int)=b then φ ((passN r s:Nat):Int) else L1 l ((passN r s:Nat):Int) φ)→L2 l s b k φ:=by
 intro r
 induction r with
 | nil=>
  intro k s hd hs h
  have:=drop_ge hd
  apply L2_step
  rw [if_neg (by omega)]
  exact h
 | cons d r ih=>
  intro k s hd hs h
  have hlt:=drop_lt hd
  have hd':=hl d (List.mem_of_getElem? (drop_get hd))
  apply L2_step
  rw [if_pos (by omega)]
  refine ⟨d,lget_drop hd,_,sub_spec hd'.1 hs,?_⟩
  rw [passN_cons] at h
  by_cases hz:sN d.Lhs &&& s=sN d.Lhs
  ·rw [if_pos (decide_eq_true hz),or_nat hd'.2 hs]
   rw [if_pos hz] at h
   apply L3_step
   rw [wrap_succ (by omega)]
   exact ih (k+1) _ (drop_next hd) (Nat.or_lt_two_pow hs hd'.2.lt) h
  ·rw [if_neg (by rw [decide_eq_false hz];decide)]
   rw [if_neg hz] at h
   apply L3_step
   rw [wrap_succ (by omega)]
   exact ih (k+1) s (drop_next hd) hs h
theorem loop {l:List api_FD} (hl:FdOK l) (hn:l.length<1000000000) {φ:Int→Prop}:∀ (k s:Nat),s<2^32→33≤k+szN s→φ ((passK l k s:Nat):Int)→L1 l s φ
 | 0,s,hs,hk,h=>by have:=bitsOf_len (n:=s);unfold szN at hk;omega
 | k+1,s,hs,hk,h=>by
  have hr:∀ d∈l,sN d.Rhs<2^32:=fun d hd=>(hl d hd).2.lt
  apply L1_step
  refine pass hl hn l 0 s rfl hs ?_
  rw [passK] at h
  by_cases hz:passN l s=s
  ·rw [if_pos (by rw [hz]),hz]
   rw [hz,passK_fix hz] at h
   exact h
  ·rw [if_neg (by omega)]
   have:=szN_lt (passN_up (l:=l)) (Ne.symm hz) (passN_lt hs hr)
   exact loop hl hn k _ (passN_lt hs hr) (by omega) h
theorem spec {l:List api_FD} (hl:FdOK l) (hn:l.length<1000000000) {s:Nat} (hs:s<2^32):C l s ((cloN l s:Nat):Int):=by
 obtain ⟨r,h1,h2⟩:=enter l s (fun r=>r=((cloN l s:Nat):Int)) (loop hl hn 33 s hs (by omega) rfl)
 rw [← h1];exact h2
end drossref09_Close
theorem full_small {n:Nat} (hn:n≤16):fullN n=2^n-1:=by unfold fullN;rw [Nat.min_eq_left (by omega)]
end Go.Own
namespace Go.Own
theorem eqFD {a b:api_FD}:(and (a.Lhs == b.Lhs) (and (a.Rhs == b.Rhs) true))=decide (a=b):=by
 obtain ⟨a1,a2⟩:=a
 obtain ⟨b1,b2⟩:=b
 simp only [api_FD.mk.injEq,Bool.and_true]
 rw [Bool.decide_and]
 rfl
theorem slices_Index_sapi_FD_api_FD.spec {l:List api_FD} {x:api_FD} (hn:l.length<1000000000):slices_Index_sapi_FD_api_FD.C l x (ixI (fun a=>decide (x=a)) l):=by
 obtain ⟨r,h1,h2⟩:=slices_Index_sapi_FD_api_FD.enter l x (fun r=>r=ixI (fun a=>decide (x=a)) l) (by
  refine index_loop (l:=l) (p:=fun a=>decide (x=a)) (L:=fun i=>slices_Index_sapi_FD_api_FD.L1 l x i _) (φ:=fun r=>r=ixI (fun a=>decide (x=a)) l) ?_ ?_ rfl
  ·intro h;apply slices_Index_sapi_FD_api_FD.L1_step;rw [if_neg (by omega)];exact h
  ·intro k a ha hk h
   apply slices_Index_sapi_FD_api_FD.L1_step
   rw [if_pos (by omega)]
   refine ⟨a,lget_of ha,?_⟩
   rw [wrap_succ (by omega),eqFD]
   exact h)
 rw [← h1];exact h2
theorem any_mem {α:Type} [DecidableEq α] {l:List α} {x:α}:(l.any fun a=>decide (x=a))=decide (x∈l):=by
 rw [Bool.eq_iff_iff,List.any_eq_true,decide_eq_true_eq]
 constructor
 ·rintro ⟨a,ha,h⟩;rw [of_decide_eq_true h];exact ha
 ·intro h;exact ⟨x,h,decide_eq_true rfl⟩
theorem slices_Contains_sapi_FD_api_FD.spec {l:List api_FD} {x:api_FD} (hn:l.length<1000000000):slices_Contains_sapi_FD_api_FD.C l x (decide (x∈l)):=by
 obtain ⟨r,h1,h2⟩:=slices_Contains_sapi_FD_api_FD.enter l x (fun r=>r=decide (x∈l)) ⟨_,slices_Index_sapi_FD_api_FD.spec hn,by rw [ixI_any,any_mem]⟩
 rw [← h1];exact h2
theorem slices_Contains_sapi_Set_api_Set.spec {l:List Int} {x:Int} (hn:l.length<1000000000):slices_Contains_sapi_Set_api_Set.C l x (decide (x∈l)):=by
 obtain ⟨q,g1,g2⟩:=slices_Index_sapi_Set_api_Set.enter l x (fun r=>r=ixI (fun a=>decide (x=a)) l) (by
  refine index_loop (l:=l) (p:=fun a=>decide (x=a)) (L:=fun i=>slices_Index_sapi_Set_api_Set.L1 l x i _) (φ:=fun r=>r=ixI (fun a=>decide (x=a)) l) ?_ ?_ rfl
  ·intro h;apply slices_Index_sapi_Set_api_Set.L1_step;rw [if_neg (by omega)];exact h
  ·intro k a ha hk h
   apply slices_Index_sapi_Set_api_Set.L1_step
   rw [if_pos (by omega)]
   refine ⟨a,lget_of ha,?_⟩
   rw [wrap_succ (by omega)]
   by_cases hx:x=a
   ·rw [if_pos hx];rw [if_pos (decide_eq_true hx)] at h;exact h
   ·rw [if_neg hx];rw [if_neg (by rw [decide_eq_false hx];decide)] at h;exact h)
 subst g1
 obtain ⟨r,h1,h2⟩:=slices_Contains_sapi_Set_api_Set.enter l x (fun r=>r=decide (x∈l)) ⟨_,g2,by rw [ixI_any,any_mem]⟩
 rw [← h1];exact h2
namespace tractable_Clear
theorem loop {l:List api_FD} (hn:l.length<1000000) {φ:List api_FD→Prop}:∀ (r:List api_FD) (k:Nat) (out:List api_FD),l.drop k=r→out.length≤k→φ (clrGo out r)→L1 l out k φ:=by
 intro r
 induction r with
 | nil=>intro k out hd hk h;have:=drop_ge hd;apply L1_step;rw [if_neg (by omega)];exact h
 | cons d r ih=>
  intro k out hd hk h
  have hlt:=drop_lt hd
  apply L1_step
  rw [if_pos (by omega)]
  refine ⟨d,lget_drop hd,?_⟩
  rw [clrGo] at h
  have next:∀ o:List api_FD,o.length≤k+1→φ (clrGo o r)→L2 l o k φ:=fun o ho hh=>by
   apply L2_step
   rw [wrap_succ (by omega)]
   exact ih (k+1) o (drop_next hd) ho hh
  by_cases h0:(clr1 d).Rhs=0
  ·rw [if_pos h0] at h
   rw [if_pos (show bAndNot .u32 d.Rhs d.Lhs=0 from h0)]
   exact next out (by omega) h
  ·rw [if_neg h0] at h
   rw [if_neg (show ¬ bAndNot .u32 d.Rhs d.Lhs=0 from h0)]
   refine ⟨_,slices_Contains_sapi_FD_api_FD.spec (by omega),?_⟩
   show if decide (clr1 d∈out)=true then _ else _
   by_cases hm:clr1 d∈out
   ·rw [if_pos hm] at h
    rw [if_pos (decide_eq_true hm)]
    exact next out (by omega) h
   ·rw [if_neg hm] at h
    rw [if_neg (by rw [decide_eq_false hm];decide)]
    exact ⟨by omega,next _ (by rw [List.length_append];simp only [List.length_cons,List.length_nil];omega) h⟩
theorem spec {l:List api_FD} (hn:l.length<1000000):C l (clearF l):=by
 obtain ⟨r,h1,h2⟩:=enter l (fun r=>r=clearF l) (loop hn l 0 [] rfl (Nat.le_refl 0) rfl)
 rw [← h1];exact h2
end tractable_Clear
namespace drossref42_Clear
theorem inner {l out:List api_FD} {i:Nat} {d:api_FD} (hn:out.length<1000000) {φ:List api_FD→Prop}:∀ (r:List api_FD) (k:Nat) (seen:Bool),out.drop k=r→(if (seen || r.any fun a=>decide (a=clr1 d))=true then L4 l out i φ else L4 l (out++[clr1 d]) i φ)→L2 l out i d seen k φ:=by
 intro r
 induction r with
 | nil=>
  intro k seen hd h
  have:=drop_ge hd
  apply L2_step
  rw [if_neg (by omega)]
  rw [List.any_nil,Bool.or_false] at h
  cases seen with
  | true=>exact h
  | false=>exact ⟨by omega,h⟩
 | cons a r ih=>
  intro k seen hd h
  have hlt:=drop_lt hd
  apply L2_step
  rw [if_pos (by omega)]
  rw [List.any_cons] at h
  cases seen with
  | true=>
   rw [if_pos rfl]
   apply L3_step
   rw [wrap_succ (by omega)]
   exact ih (k+1) true (drop_next hd) h
  | false=>
   rw [if_neg (by decide)]
   refine ⟨a,lget_drop hd,?_⟩
   have e:=eqFD (a:=a) (b:=clr1 d)
   unfold clr1 at e
   simp only at e
   rw [e]
   apply L3_step
   rw [wrap_succ (by omega)]
   refine ih (k+1) _ (drop_next hd) ?_
   rw [Bool.false_or] at h
   exact h
theorem loop {l:List api_FD} (hn:l.length<1000000) {φ:List api_FD→Prop}:∀ (r:List api_FD) (k:Nat) (out:List api_FD),l.drop k=r→out.length≤k→φ (clrGo out r)→L1 l out k φ:=by
 intro r
 induction r with
 | nil=>intro k out hd hk h;have:=drop_ge hd;apply L1_step;rw [if_neg (by omega)];exact h
 | cons d r ih=>
  intro k out hd hk h
  have hlt:=drop_lt hd
  apply L1_step
  rw [if_pos (by omega)]
  refine ⟨d,lget_drop hd,?_⟩
  rw [clrGo] at h
  have next:∀ o:List api_FD,o.length≤k+1→φ (clrGo o r)→L4 l o k φ:=fun o ho hh=>by
   apply L4_step
   rw [wrap_succ (by omega)]
   exact ih (k+1) o (drop_next hd) ho hh
  refine inner (by omega) out 0 _ rfl ?_
  have e:(out.any fun a=>decide (a=clr1 d))=decide (clr1 d∈out):=by
   rw [← any_mem]
   congr 1
   funext a
   exact decide_eq_decide.2 ⟨Eq.symm,Eq.symm⟩
  rw [e]
  by_cases h0:(clr1 d).Rhs=0
  ·rw [if_pos h0] at h
   have:(bAndNot .u32 d.Rhs d.Lhs == 0)=true:=beq_iff_eq.2 h0
   rw [this,Bool.true_or,if_pos rfl]
   exact next out (by omega) h
  ·rw [if_neg h0] at h
   have:(bAndNot .u32 d.Rhs d.Lhs == 0)=false:=beq_eq_false_iff_ne.2 h0
   rw [this,Bool.false_or]
   by_cases hm:clr1 d∈out
   ·rw [if_pos hm] at h
    rw [if_pos (decide_eq_true hm)]
    exact next out (by omega) h
   ·rw [if_neg hm] at h
    rw [if_neg (by rw [decide_eq_false hm];decide)]
    exact next _ (by rw [List.length_append];simp only [List.length_cons,List.length_nil];omega) h
theorem spec {l:List api_FD} (hn:l.length<1000000):C l (clearF l):=by
 obtain ⟨r,h1,h2⟩:=enter l (fun r=>r=clearF l) (loop hn l 0 [] rfl (Nat.le_refl 0) rfl)
 rw [← h1];exact h2
end drossref42_Clear
theorem sub_int {a b:Int} (ha:U32 a) (hb:U32 b):drossref02_Sub.C a b (subI a b):=by
 have:=drossref02_Sub.spec ha.lt hb.lt
 rw [← ha.eq,← hb.eq] at this
 exact this
theorem close_int {l:List api_FD} (hl:FdOK l) (hn:l.length<1000000) {s:Int} (hs:U32 s):closure_Close.C l s (cloI l s):=by
 have:=closure_Close.spec hl (by omega) hs.lt
 rw [← hs.eq] at this
 exact this
theorem rclose_int {l:List api_FD} (hl:FdOK l) (hn:l.length<1000000) {s:Int} (hs:U32 s):drossref09_Close.C l s (cloI l s):=by
 have:=drossref09_Close.spec hl (by omega) hs.lt
 rw [← hs.eq] at this
 exact this
theorem drossref42_left.spec {l:List api_FD} {s:Int} (hn:l.length<1000000):drossref42_left.C l s (leftF l s):=by
 obtain ⟨r,h1,h2⟩:=drossref42_left.enter l s (fun r=>r=leftF l s) (by
  refine any_loop (l:=l) (p:=fun d=>decide (d.Lhs=s)) (L:=fun i=>drossref42_left.L1 l s i _) (φ:=fun r=>r=leftF l s) ?_ ?_ rfl
  ·intro h;apply drossref42_left.L1_step;rw [if_neg (by omega)];exact h
  ·intro k a ha hk h
   apply drossref42_left.L1_step
   rw [if_pos (by omega)]
   refine ⟨a,lget_of ha,?_⟩
   rw [wrap_succ (by omega)]
   by_cases hx:a.Lhs=s
   ·rw [if_pos hx];rw [if_pos (decide_eq_true hx)] at h;exact h
   ·rw [if_neg hx];rw [if_neg (by rw [decide_eq_false hx];decide)] at h;exact h)
 rw [← h1];exact h2
theorem drossref42_covered.spec {l:List api_FD} {a b:Int} (hl:FdOK l) (hn:l.length<1000000) (ha:U32 a) (hb:U32 b):drossref42_covered.C l a b (covF l a b):=by
 obtain ⟨r,h1,h2⟩:=drossref42_covered.enter l a b (fun r=>r=covF l a b) (by
  refine all_loop (l:=l) (p:=fun d=>subI a d.Lhs || subI b d.Lhs) (L:=fun i=>drossref42_covered.L1 l a b i _) (φ:=fun r=>r=covF l a b) ?_ ?_ rfl
  ·intro h;apply drossref42_covered.L1_step;rw [if_neg (by omega)];exact h
  ·intro k d hd hk h
   have hd':=hl d (List.mem_of_getElem? hd)
   have next:drossref42_covered.L1 l a b ((k+1:Nat):Int) (fun r=>r=covF l a b)→drossref42_covered.L2 l a b k (fun r=>r=covF l a b):=fun h=>by
    apply drossref42_covered.L2_step
    rw [wrap_succ (by omega)];exact h
   apply drossref42_covered.L1_step
   rw [if_pos (by omega)]
   refine ⟨d,lget_of hd,_,sub_int ha hd'.1,?_⟩
   cases h1:subI a d.Lhs with
   | true=>
    rw [h1,Bool.true_or,if_pos rfl] at h
    rw [if_pos rfl];exact next h
   | false=>
    rw [h1,Bool.false_or] at h
    rw [if_neg (by decide)]
    refine ⟨_,sub_int hb hd'.1,?_⟩
    split
    ·rename_i h2;rw [if_pos h2] at h;exact next h
    ·rename_i h2;rw [if_neg h2] at h;exact h)
 rw [← h1];exact h2
theorem tractable_common.spec {l:List api_FD} (hl:FdOK l) (hn:l.length<1000000):tractable_common.C l ((comN l:Nat):Int):=by
 obtain ⟨r,h1,h2⟩:=tractable_common.enter l (fun r=>r=((comN l:Nat):Int)) (by
  cases hd:l with
  | nil=>rw [if_pos (by simp)];rfl
  | cons d q=>
   rw [← hd]
   have hlen:l.length=q.length+1:=by rw [hd];rfl
   rw [if_neg (by omega)]
   refine ⟨d,by rw [hd];rfl,?_⟩
   have hdu:=(hl d (by rw [hd];simp)).1
   rw [hdu.eq]
   have go:∀ (r:List api_FD) (k s:Nat),l.drop k=r→s<2^32→comGo s r=comN l→tractable_common.L1 l ((s:Nat):Int) (k:Int) (fun r=>r=((comN l:Nat):Int)):=by
    intro r
    induction r with
    | nil=>intro k s hdr hs h;have:=drop_ge hdr;apply tractable_common.L1_step;rw [if_neg (by omega),← h];rfl
    | cons x r ih=>
     intro k s hdr hs h
     have hlt:=drop_lt hdr
     have hx:=(hl x (List.mem_of_getElem? (drop_get hdr))).1
     apply tractable_common.L1_step
     rw [if_pos (by omega)]
     refine ⟨x,lget_drop hdr,?_⟩
     have e:bAnd .u32 ((s:Nat):Int) x.Lhs=((s &&& sN x.Lhs:Nat):Int):=by
      have:=bAnd_nat (k:=.u32) (a:=s) (b:=sN x.Lhs) (by simpa only [top] using hs) hx.top
      rw [← hx.eq] at this
      exact this
     rw [e,wrap_succ (by omega)]
     exact ih (k+1) _ (drop_next hdr) (Nat.lt_of_le_of_lt Nat.and_le_left hs) h
   exact go l 0 _ rfl hdu.lt (by rw [hd];rfl))
 rw [← h1];exact h2
theorem tractable_lefts.spec {l:List api_FD} (hl:FdOK l) (hn:l.length<1000000):tractable_lefts.C l (sidesF l):=by
 obtain ⟨r,h1,h2⟩:=tractable_lefts.enter l (fun r=>r=sidesF l) (by
  have go:∀ (r:List api_FD) (k:Nat) (out:List Int),l.drop k=r→out.length≤k→out++r.map (fun d=>d.Lhs)=l.map (fun d=>d.Lhs)→tractable_lefts.L1 l out (k:Int) (fun r=>r=sidesF l):=by
   intro r
   induction r with
   | nil=>
    intro k out hd hk h
    have:=drop_ge hd
    apply tractable_lefts.L1_step
    rw [if_neg (by omega)]
    rw [List.map_nil,List.append_nil] at h
    subst h
    exact ⟨_,attrset_Order.spec (by rw [List.length_map];omega) (fun y hy=>by
     obtain ⟨d,hd,rfl⟩:=List.mem_map.1 hy
     exact (hl d hd).1),rfl⟩
   | cons x r ih=>
    intro k out hd hk h
    have hlt:=drop_lt hd
    apply tractable_lefts.L1_step
    rw [if_pos (by omega)]
    refine ⟨x,lget_drop hd,by omega,?_⟩
    rw [wrap_succ (by omega)]
    exact ih (k+1) _ (drop_next hd) (by rw [List.length_append];simp only [List.length_cons,List.length_nil];omega) (by rw [List.append_assoc];exact h)
  exact go l 0 [] rfl (Nat.le_refl 0) rfl)
 rw [← h1];exact h2
theorem andNot_int {a b:Int} (ha:U32 a) (hb:U32 b):bAndNot .u32 a b=0↔subI a b=true:=by
 have:=andNot_zero ha hb.lt
 rw [← hb.eq] at this
 rw [this];unfold subI;rw [decide_eq_true_eq]
theorem tractable_married.spec {l:List api_FD} (hl:FdOK l) (hn:l.length<1000000) {a b:Int} (ha:U32 a) (hb:U32 b):tractable_married.C l a b (!decide (a=b)&&(decide (cloI l a=cloI l b)&&covF l a b)):=by
 have one:∀ d:api_FD,U32 d.Lhs→tractable_married_1.C d a b (!(subI a d.Lhs || subI b d.Lhs)):=fun d hd=>by
  obtain ⟨r,h1,h2⟩:=tractable_married_1.enter d a b (fun r=>r=!(subI a d.Lhs || subI b d.Lhs)) (by
   by_cases h:subI a d.Lhs=true
   ·rw [if_pos ((andNot_int ha hd).2 h),h];rfl
   ·rw [if_neg (fun hh=>h ((andNot_int ha hd).1 hh))]
    have h':subI a d.Lhs=false:=by simpa using h
    rw [h',Bool.false_or]
    by_cases h2:subI b d.Lhs=true
    ·rw [h2,(andNot_int hb hd).2 h2];rfl
    ·have h2':subI b d.Lhs=false:=by simpa using h2
     rw [h2']
     exact bne_iff_ne.2 fun hh=>h2 ((andNot_int hb hd).1 hh))
  rw [← h1];exact h2
 have cf:slices_ContainsFunc_sapi_FD_api_FD_tractable_married_1.C l a b (!covF l a b):=by
  obtain ⟨q,g1,g2⟩:=slices_IndexFunc_sapi_FD_api_FD_tractable_married_1.enter l a b (fun r=>r=ixI (fun d=>!(subI a d.Lhs || subI b d.Lhs)) l) (by
   refine index_loop (l:=l) (p:=fun d=>!(subI a d.Lhs || subI b d.Lhs)) (L:=fun i=>slices_IndexFunc_sapi_FD_api_FD_tractable_married_1.L1 l a b i _) (φ:=fun r=>r=ixI (fun d=>!(subI a d.Lhs || subI b d.Lhs)) l) ?_ ?_ rfl
   ·intro h;apply slices_IndexFunc_sapi_FD_api_FD_tractable_married_1.L1_step;rw [if_neg (by omega)];exact h
   ·intro k d hd hk h
    apply slices_IndexFunc_sapi_FD_api_FD_tractable_married_1.L1_step
    rw [if_pos (by omega)]
    refine ⟨d,lget_of hd,_,one d (hl d (List.mem_of_getElem? hd)).1,?_⟩
    rw [wrap_succ (by omega)];exact h)
  subst g1
  obtain ⟨r,h1,h2⟩:=slices_ContainsFunc_sapi_FD_api_FD_tractable_married_1.enter l a b (fun r=>r=!covF l a b) ⟨_,g2,by
   rw [ixI_any]
   unfold covF
   rw [List.not_all_eq_any_not]⟩
  rw [← h1];exact h2
 obtain ⟨r,h1,h2⟩:=tractable_married.enter l a b (fun r=>r=(!decide (a=b)&&(decide (cloI l a=cloI l b)&&covF l a b))) (by
  by_cases hab:a=b
  ·rw [if_pos hab,decide_eq_true hab];rfl
  ·rw [if_neg hab,decide_eq_false hab]
   refine ⟨_,close_int hl hn ha,_,close_int hl hn hb,?_⟩
   by_cases hc:cloI l a=cloI l b
   ·rw [if_pos hc,decide_eq_true hc]
    refine ⟨_,cf,?_⟩
    simp
   ·rw [if_neg hc,decide_eq_false hc];rfl)
 rw [← h1];exact h2
theorem size_one {x:Int}:((szN (sN x):Nat):Int)=1↔szN (sN x)=1:=by omega
theorem drossref42_possible.spec {l:List api_FD} (hl:FdOK l) (hn:l.length<1000000) {x:api_Step} (hx:StepOK x):drossref42_possible.C l x (possF l x):=by
 obtain ⟨r,h1,h2⟩:=drossref42_possible.enter l x (fun r=>r=possF l x) (by
  unfold possF
  by_cases k1:x.Kind=1
  ·rw [if_pos k1,if_pos k1]
   by_cases h0:0<l.length
   ·rw [if_pos (by omega),decide_eq_true h0]
    refine ⟨_,drossref02_Size.spec hx.1,?_⟩
    by_cases hs:szN (sN x.First)=1
    ·rw [if_pos (size_one.2 hs),decide_eq_true hs]
     by_cases h2:x.Second=0
     ·rw [if_pos h2,decide_eq_true h2]
      exact ⟨_,drossref42_covered.spec hl hn hx.1 hx.1,by simp⟩
     ·rw [if_neg h2,decide_eq_false h2];rfl
    ·rw [if_neg (fun h=>hs (size_one.1 h)),decide_eq_false hs];rfl
   ·rw [if_neg (by omega),decide_eq_false h0];rfl
  ·rw [if_neg k1,if_neg k1]
   by_cases k2:x.Kind=2
   ·rw [if_pos k2,if_pos k2]
    refine ⟨_,drossref42_left.spec hn,?_⟩
    cases hlf:leftF l 0 with
    | false=>rfl
    | true=>
     rw [if_pos rfl]
     refine ⟨_,rclose_int hl hn U32_zero,?_⟩
     by_cases hc:x.First=cloI l 0
     ·rw [if_pos hc,decide_eq_true hc,Bool.true_and,Bool.true_and];rfl
     ·rw [if_neg hc,decide_eq_false hc];rfl
   ·rw [if_neg k2,if_neg k2]
    by_cases k3:x.Kind=3
    ·rw [if_pos k3,if_pos k3]
     by_cases he:x.First=x.Second
     ·rw [if_pos he,decide_eq_true he];rfl
     ·rw [if_neg he,decide_eq_false he]
      refine ⟨_,drossref42_left.spec hn,?_⟩
      cases h1:leftF l x.First with
      | false=>rfl
      | true=>
       rw [if_pos rfl]
       refine ⟨_,drossref42_left.spec hn,?_⟩
       cases h2:leftF l x.Second with
       | false=>rfl
       | true=>
        rw [if_pos rfl]
        refine ⟨_,rclose_int hl hn hx.1,_,rclose_int hl hn hx.2,?_⟩
        by_cases hc:cloI l x.First=cloI l x.Second
        ·rw [if_pos hc,decide_eq_true hc]
         exact ⟨_,drossref42_covered.spec hl hn hx.1 hx.2,by simp⟩
        ·rw [if_neg hc,decide_eq_false hc];rfl
    ·rw [if_neg k3,if_neg k3])
 rw [← h1];exact h2
theorem tractable_possible.spec {l:List api_FD} (hl:FdOK l) (hn:l.length<1000000) {x:api_Step} (hx:StepOK x):tractable_possible.C l x (possF l x):=by
 have hsl:=sides_len (l:=l)
 have ct:∀ s,slices_Contains_sapi_Set_api_Set.C (sidesF l) s (leftF l s):=fun s=>by
  have:=slices_Contains_sapi_Set_api_Set.spec (l:=sidesF l) (x:=s) (by omega)
  have e:decide (s∈sidesF l)=leftF l s:=by
   rw [Bool.eq_iff_iff,decide_eq_true_eq];exact sides_mem hl
  rw [e] at this;exact this
 obtain ⟨r,h1,h2⟩:=tractable_possible.enter l x (fun r=>r=possF l x) (by
  unfold possF
  by_cases k1:x.Kind=1
  ·rw [if_pos k1,if_pos k1]
   by_cases h0:0<l.length
   ·rw [if_pos (by omega),decide_eq_true h0]
    refine ⟨_,attrset_Size.spec hx.1,?_⟩
    by_cases hs:szN (sN x.First)=1
    ·rw [if_pos (size_one.2 hs),decide_eq_true hs]
     refine ⟨_,tractable_common.spec hl hn,?_⟩
     have e:bAndNot .u32 x.First ((comN l:Nat):Int)=0↔covF l x.First x.First=true:=by
      rw [andNot_zero hx.1 (comN_lt hl)]
      exact sub_com (by intro h;rw [h] at h0;exact Nat.lt_irrefl 0 h0)
     by_cases hc:covF l x.First x.First=true
     ·rw [if_pos (e.2 hc),hc,Bool.true_and,Bool.true_and,Bool.and_true];rfl
     ·have hc':covF l x.First x.First=false:=by simpa using hc
      rw [if_neg (fun h=>hc (e.1 h)),hc',Bool.and_false];rfl
    ·rw [if_neg (fun h=>hs (size_one.1 h)),decide_eq_false hs];rfl
   ·rw [if_neg (by omega),decide_eq_false h0];rfl
  ·rw [if_neg k1,if_neg k1]
   by_cases k2:x.Kind=2
   ·rw [if_pos k2,if_pos k2]
    refine ⟨_,tractable_lefts.spec hl hn,_,ct 0,?_⟩
    cases hlf:leftF l 0 with
    | false=>rfl
    | true=>
     rw [if_pos rfl]
     refine ⟨_,close_int hl hn U32_zero,?_⟩
     by_cases hc:x.First=cloI l 0
     ·rw [if_pos hc,decide_eq_true hc,Bool.true_and,Bool.true_and];rfl
     ·rw [if_neg hc,decide_eq_false hc];rfl
   ·rw [if_neg k2,if_neg k2]
    by_cases k3:x.Kind=3
    ·rw [if_pos k3,if_pos k3]
     refine ⟨_,tractable_lefts.spec hl hn,_,ct x.First,?_⟩
     cases h1:leftF l x.First with
     | false=>cases decide (x.First=x.Second)<;>rfl
     | true=>
      rw [if_pos rfl]
      refine ⟨_,ct x.Second,?_⟩
      cases h2:leftF l x.Second with
      | false=>cases decide (x.First=x.Second)<;>rfl
      | true=>
       rw [if_pos rfl]
       refine ⟨_,tractable_married.spec hl hn hx.1 hx.2,?_⟩
       rw [Bool.true_and,Bool.true_and]
    ·rw [if_neg k3,if_neg k3])
 rw [← h1];exact h2
end Go.Own
namespace Go.Own
theorem com_zero {l:List api_FD}:((comN l:Nat):Int)=0↔comN l=0:=by omega
theorem take_all {α:Type} {s r:List α} {k:Nat} (h:s.drop k=r):List.take (s.length-k) r=r:=by
 have:r.length=s.length-k:=by rw [← h,List.length_drop]
 rw [← this,List.take_length]
def pairS:Option (Int×Int)→api_Step×Bool
 | some q=>(⟨3,q.1,q.2⟩,true)
 | none=>(⟨0,0,0⟩,false)
theorem poss_pair {l:List api_FD} {a b:Int} (ha:leftF l a=true) (hb:leftF l b=true):possF l ⟨3,a,b⟩=(!decide (a=b)&&(decide (cloI l a=cloI l b)&&covF l a b)):=by
 unfold possF
 simp [ha,hb]
theorem pairGo_cons {l:List api_FD} {a:Int} {r:List Int}:pairGo l (a::r)=match r.find? (fun b=>possF l ⟨3,a,b⟩) with
  | some b=>some (a,b)
  | none=>pairGo l r:=rfl
namespace tractable_next
theorem inner {l:List api_FD} (hl:FdOK l) (hn:l.length<1000000) {s:List Int} (hs:s=sidesF l) {a:Int} (ha:a∈s) {i:Nat} (hi:i<s.length) {r0:List Int} (hr0:∀ b∈r0,b∈s) (hr:r0.length<1000000) {φ:api_Step×Bool→Prop} (rest:L1 l s ((i+1:Nat):Int) φ∨True) :
  ∀ (r:List Int) (k:Nat),r0.drop k=r→(match r.find? (fun b=>possF l ⟨3,a,b⟩) with
   | some b=>φ (⟨3,a,b⟩,true)
   | none=>L1 l s ((i+1:Nat):Int) φ)→L2 l s a i r0 (r0.length:Int) k φ:=by
 subst hs
 have hsl:=sides_len (l:=l)
 have ua:=sides_all hl
 intro r
 induction r with
 | nil=>
  intro k hd h
  have:=drop_ge hd
  apply L2_step
  rw [if_neg (by omega),wrap_succ (by omega)]
  exact h
 | cons b r ih=>
  intro k hd h
  have hlt:=drop_lt hd
  have hb:=hr0 b (List.mem_of_getElem? (drop_get hd))
  apply L2_step
  rw [if_pos (by omega)]
  refine ⟨b,lget_drop hd,_,tractable_married.spec hl hn (ua a ha) (ua b hb),?_⟩
  rw [List.find?_cons,poss_pair ((sides_mem hl).1 ha) ((sides_mem hl).1 hb)] at h
  split
  ·rename_i hm;rw [hm] at h;exact h
  ·rename_i hm
   have hm:(!decide (a=b)&&(decide (cloI l a=cloI l b)&&covF l a b))=false:=by simpa using hm
   rw [hm] at h
   rw [wrap_succ (by omega)]
   exact ih (k+1) (drop_next hd) h
theorem loop {l:List api_FD} (hl:FdOK l) (hn:l.length<1000000) {φ:api_Step×Bool→Prop}:∀ (r:List Int) (k:Nat),(sidesF l).drop k=r→φ (pairS (pairGo l r))→L1 l (sidesF l) k φ:=by
 have hsl:=sides_len (l:=l)
 intro r
 induction r with
 | nil=>
  intro k hd h
  have:=drop_ge hd
  apply L1_step
  rw [if_neg (by omega)]
  exact h
 | cons a r ih=>
  intro k hd h
  have hlt:=drop_lt hd
  have hnx:=drop_next hd
  apply L1_step
  rw [if_pos (by omega)]
  refine ⟨a,lget_drop hd,?_⟩
  rw [wrap_succ (by omega),Int.toNat_natCast,hnx,take_all hnx]
  refine ⟨by omega,⟨by omega,Nat.le_refl _⟩,?_⟩
  have hrl:r.length=(sidesF l).length-(k+1):=by rw [← hnx,List.length_drop]
  refine inner hl hn rfl (List.mem_of_getElem? (drop_get hd)) hlt (fun b hb=>by rw [← hnx] at hb;exact List.mem_of_mem_drop hb) (by omega) (.inr trivial) r 0 rfl ?_
  rw [pairGo_cons] at h
  cases hf:r.find? (fun b=>possF l ⟨3,a,b⟩) with
  | some b=>rw [hf] at h;exact h
  | none=>rw [hf] at h;exact ih (k+1) hnx h
theorem spec {l:List api_FD} (hl:FdOK l) (hn:l.length<1000000):C l (nextF l):=by
 have hsl:=sides_len (l:=l)
 obtain ⟨r,h1,h2⟩:=enter l (fun r=>r=nextF l) (by
  refine ⟨_,tractable_common.spec hl hn,?_⟩
  by_cases hc:comN l=0
  ·rw [if_pos (com_zero.2 hc)]
   have e:nextF l=if possF l ⟨2,cloI l 0,0⟩=true then (⟨2,cloI l 0,0⟩,true) else pairS (pairGo l (sidesF l)):=by
    unfold nextF
    rw [next_common hl,if_pos hc]
    simp only
    split
    ·rfl
    ·cases pairGo l (sidesF l)<;>rfl
   have e2:possF l ⟨2,cloI l 0,0⟩=leftF l 0:=by
    unfold possF
    simp
   rw [e2] at e
   refine ⟨_,tractable_lefts.spec hl hn,_,slices_Contains_sapi_Set_api_Set.spec (by omega),?_⟩
   have e3:decide ((0:Int)∈sidesF l)=leftF l 0:=by
    rw [Bool.eq_iff_iff,decide_eq_true_eq];exact sides_mem hl
   rw [e3,e]
   split
   ·exact ⟨_,close_int hl hn U32_zero,rfl⟩
   ·exact loop hl hn (sidesF l) 0 rfl rfl
  ·rw [if_neg (fun h=>hc (com_zero.1 h))]
   obtain ⟨i,h1,h2⟩:=least_bit hc
   have hi:=bit_lt (comN_lt hl) h1
   rw [low_and (comN_lt hl) h1 h2]
   unfold nextF
   rw [next_common hl,if_neg hc,firstN_some h1 (fun j _ hj=>h2 j hj) (by omega) (by omega)])
 rw [← h1];exact h2
end tractable_next
theorem tractable_remove.spec {l:List api_FD} {s:Int} (hn:l.length<1000000):tractable_remove.C l s (clearF (cutF l s)):=by
 obtain ⟨r,h1,h2⟩:=tractable_remove.enter l s (fun r=>r=clearF (cutF l s)) (by
  have go:∀ (r:List api_FD) (k:Nat) (out:List api_FD),l.drop k=r→out.length≤k→out++cutF r s=cutF l s→tractable_remove.L1 l s out (k:Int) (fun r=>r=clearF (cutF l s)):=by
   intro r
   induction r with
   | nil=>
    intro k out hd hk h
    have:=drop_ge hd
    apply tractable_remove.L1_step
    rw [if_neg (by omega)]
    have h:out=cutF l s:=by simpa [cutF] using h
    subst h
    exact ⟨_,tractable_Clear.spec (by unfold cutF;rw [List.length_map];omega),rfl⟩
   | cons x r ih=>
    intro k out hd hk h
    have hlt:=drop_lt hd
    apply tractable_remove.L1_step
    rw [if_pos (by omega)]
    refine ⟨x,lget_drop hd,by omega,?_⟩
    rw [wrap_succ (by omega)]
    exact ih (k+1) _ (drop_next hd) (by rw [List.length_append];simp only [List.length_cons,List.length_nil];omega) (by rw [List.append_assoc];exact h)
  exact go l 0 [] rfl (Nat.le_refl 0) rfl)
 rw [← h1];exact h2
theorem or_int {a b:Int} (ha:U32 a) (hb:U32 b):U32 (bOr .u32 a b):=by
 rw [ha.eq,hb.eq,bOr_nat (k:=.u32) ha.top hb.top]
 exact U32.of (Nat.or_lt_two_pow ha.lt hb.lt)
theorem lset_at {α:Type} {p q:List α} {a b:α}:lset (p++a::q) ((p.length:Nat):Int) b=p++b::q:=by
 unfold lset
 rw [Int.toNat_natCast]
 simp
theorem drossref42_Apply.spec {l:List api_FD} {x:api_Step} (hl:FdOK l) (hn:l.length<1000000) (hx:StepOK x):drossref42_Apply.C l x (applyF l x):=by
 have hcl:=clear_len hl
 obtain ⟨r,h1,h2⟩:=drossref42_Apply.enter l x (fun r=>r=applyF l x) (by
  refine ⟨_,drossref42_Clear.spec hn,_,drossref42_possible.spec (clear_ok hl) (by omega) hx,?_⟩
  unfold applyF
  split
  ·have go:∀ (q p:List api_FD),p.length+q.length<1000000→∀ {φ:List api_FD×Int→Prop},φ (clearF (p++cutF q (bOr .u32 x.First x.Second)),0)→drossref42_Apply.L1 (p++q) (bOr .u32 x.First x.Second) ((p.length:Nat):Int) φ:=by
    intro q
    induction q with
    | nil=>
     intro p hp φ h
     apply drossref42_Apply.L1_step
     have h:φ (clearF p,0):=by simpa [cutF] using h
     rw [List.append_nil,if_neg (by omega)]
     exact ⟨_,drossref42_Clear.spec (by simp at hp;omega),h⟩
    | cons a q ih=>
     intro p hp φ h
     apply drossref42_Apply.L1_step
     rw [if_pos (by rw [List.length_append,List.length_cons];omega)]
     refine ⟨a,by rw [lget_nat];simp,?_⟩
     simp only [List.length_cons] at hp
     rw [lset_at,wrap_succ (by omega)]
     have e:p.length+1=(p++[(⟨bAndNot .u32 a.Lhs (bOr .u32 x.First x.Second),bAndNot .u32 a.Rhs (bOr .u32 x.First x.Second)⟩:api_FD)]).length:=by simp
     have e2:∀ b:api_FD,p++b::q=(p++[b])++q:=fun b=>by simp
     rw [e,e2]
     exact ih _ (by rw [List.length_append];simp only [List.length_cons,List.length_nil];omega) (by rw [List.append_assoc];exact h)
   exact go (clearF l) [] (by simp;omega) rfl
  ·rfl)
 rw [← h1];exact h2
end Go.Own
namespace Go.Own
end Go.Own
namespace Go.Own
theorem sz_le {x:Nat}:szN x≤32:=bitsOf_len
theorem tractable_Chain.loop {φ:List api_Step×List api_FD×Int→Prop}:∀ (k:Nat) (l:List api_FD) (out:List api_Step),FdOK l→IsClr l→l.length<1000000→szN (atts l)<k→out.length+k<1000→φ (out++(chainK k l).1,(chainK k l).2,0)→tractable_Chain.L1 l out φ
 | 0,l,out,_,_,_,hk,_,_=>absurd hk (Nat.not_lt_zero _)
 | k+1,l,out,hl,hc,hn,hk,ho,h=>by
  apply tractable_Chain.L1_step
  refine ⟨_,tractable_next.spec hl hn,?_⟩
  rw [chainK] at h
  by_cases hx:(nextF l).2=true
  ·rw [if_pos hx]
   rw [if_pos hx] at h
   obtain ⟨h1,h2,h3⟩:=stepL_ok hl hx
   have h4:=step_less hl hc hx
   refine ⟨by omega,_,tractable_remove.spec hn,?_⟩
   refine tractable_Chain.loop k (stepL l) _ h1 h2 (by omega) (by omega) (by rw [List.length_append];simp only [List.length_cons,List.length_nil];omega) ?_
   rw [List.append_assoc];exact h
  ·rw [if_neg hx]
   rw [if_neg hx] at h
   simpa using h
theorem tractable_Chain.spec {n:Int} {l:List api_FD} (hl:FdOK l) (hn:l.length<1000000):tractable_Chain.C n l (chainF n l):=by
 have hcl:=clear_len hl
 obtain ⟨r,h1,h2⟩:=tractable_Chain.enter n l (fun r=>r=chainF n l) (by
  refine ⟨_,closure_Valid.spec hl,?_⟩
  unfold chainF
  by_cases h0:fdsE n l=0
  ·rw [if_pos h0,if_pos h0]
   exact ⟨_,tractable_Clear.spec hn,tractable_Chain.loop 40 _ [] (clear_ok hl) (clear_clr hl) (by omega) (by have:=sz_le (x:=atts (clearF l));omega) (by simp) rfl⟩
  ·rw [if_neg h0,if_neg h0])
 rw [← h1];exact h2
theorem chainK_len:∀ (k:Nat) {l:List api_FD},FdOK l→(chainK k l).1.length≤k∧FdOK (chainK k l).2∧(chainK k l).2.length≤l.length
 | 0,l,h=>⟨Nat.le_refl 0,h,Nat.le_refl _⟩
 | k+1,l,h=>by
  rw [chainK]
  split
  ·rename_i hx
   obtain ⟨h1,h2,h3⟩:=stepL_ok h hx
   obtain ⟨g1,g2,g3⟩:=chainK_len k h1
   exact ⟨by simp only [List.length_cons];omega,g2,Nat.le_trans g3 h3⟩
  ·exact ⟨Nat.zero_le _,h,Nat.le_refl _⟩
end Go.Own
namespace Go.Own
def errA (n:Int) (l:List api_FD):Int:=if fdsE n l=0 then (if 10<n then 3 else 0) else fdsE n l
theorem errA_n {n:Int} {l:List api_FD} (h:errA n l=0):0≤n∧n≤10∧fdsE n l=0:=by
 unfold errA at h
 split at h
 ·rename_i h0
  have:=fdsE_n h0
  split at h
  ·cases h
  ·exact ⟨by omega,by omega,h0⟩
 ·rename_i h0;exact absurd h h0
theorem full_spec {n:Nat} (hn:n≤16):drossref02_Full.C n ((2^n-1:Nat):Int):=by
 rw [← full_small hn];exact drossref02_Full.spec
end Go.Own
