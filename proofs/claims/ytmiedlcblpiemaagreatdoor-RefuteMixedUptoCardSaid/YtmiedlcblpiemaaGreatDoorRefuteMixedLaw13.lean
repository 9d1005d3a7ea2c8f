/- What the functions that the law reaches answer. No conditions. -/
import Derived.Test.YtmiedlcblpiemaaGreatDoorRefuteMixedLaw11
import Derived.Test.YtmiedlcblpiemaaGreatDoorRefuteMixedLaw12
set_option linter.all false
namespace Go.Own
def ltS (x y:Int):Bool:=decide (keyS x<keyS y)
theorem ltS_swo:Go.Sort.SWO ltS where
 irrefl:=fun x=>by unfold ltS;simp
 trans:=fun x y z h1 h2=>by unfold ltS at *;simp only [decide_eq_true_eq] at *;omega
 ntrans:=fun x y z h1 h2=>by unfold ltS at *;simp only [decide_eq_false_iff_not] at *;omega
theorem cmp_Compare_int.spec {x y:Int}:cmp_Compare_int.C x y (cmpI x y):=by
 obtain ⟨f1,g1,k1⟩:=cmp_isNaN_int.enter x (fun r=>r=false) (by simp)
 obtain ⟨f2,g2,k2⟩:=cmp_isNaN_int.enter y (fun r=>r=false) (by simp)
 subst g1 g2
 obtain ⟨r,h1,h2⟩:=cmp_Compare_int.enter x y (fun r=>r=cmpI x y) (by
  refine ⟨_,k1,_,k2,?_⟩
  rw [if_neg (by decide),if_neg (by decide)]
  unfold cmpI
  split
  ·rfl
  ·split<;>rfl)
 rw [← h1];exact h2
theorem cmp_Compare_api_Set.spec {x y:Int}:cmp_Compare_api_Set.C x y (cmpI x y):=by
 obtain ⟨f1,g1,k1⟩:=cmp_isNaN_api_Set.enter x (fun r=>r=false) (by simp)
 obtain ⟨f2,g2,k2⟩:=cmp_isNaN_api_Set.enter y (fun r=>r=false) (by simp)
 subst g1 g2
 obtain ⟨r,h1,h2⟩:=cmp_Compare_api_Set.enter x y (fun r=>r=cmpI x y) (by
  refine ⟨_,k1,_,k2,?_⟩
  rw [if_neg (by decide),if_neg (by decide)]
  unfold cmpI
  split
  ·rfl
  ·split<;>rfl)
 rw [← h1];exact h2
theorem cmp_Or_int.two {a b:Int}:cmp_Or_int.C [a,b] (if a=0 then b else a):=by
 obtain ⟨r,h1,h2⟩:=cmp_Or_int.enter [a,b] (fun r=>r=if a=0 then b else a) (by
  apply cmp_Or_int.L1_step
  rw [if_pos (by simp)]
  refine ⟨a,rfl,?_⟩
  by_cases ha:a=0
  ·rw [if_pos ha]
   apply cmp_Or_int.L1_step
   have e:IntKind.wrap .i64 ((0:Int)+1)=1:=by decide
   rw [e,if_pos (by simp)]
   refine ⟨b,rfl,?_⟩
   by_cases hb:b=0
   ·rw [if_pos hb]
    apply cmp_Or_int.L1_step
    have e:IntKind.wrap .i64 ((1:Int)+1)=2:=by decide
    rw [e,if_neg (by simp),if_pos ha,hb]
   ·rw [if_neg hb,if_pos ha]
  ·rw [if_neg ha,if_neg ha])
 rw [← h1];exact h2
theorem cmpS_ok:CmpOK U32 ltS attrset_compare.C:=fun x y hx hy=>by
 obtain ⟨r,h1,h2⟩:=attrset_compare.enter x y (fun r=>r<0↔ltS x y=true) (by
  refine ⟨_,attrset_Size.spec hx,_,attrset_Size.spec hy,_,cmp_Compare_int.spec,_,cmp_Compare_api_Set.spec,_,cmp_Or_int.two,?_⟩
  unfold ltS
  rw [decide_eq_true_eq,keyS_lt hx hy]
  have ex:=hx.eq
  have ey:=hy.eq
  unfold cmpI
  generalize szN (sN x)=s at *
  generalize szN (sN y)=t at *
  by_cases h1:(s:Int)<t
  ·rw [if_pos h1,if_neg (by decide)];omega
  ·rw [if_neg h1]
   by_cases h2:(t:Int)<s
   ·rw [if_pos h2,if_neg (by decide)];omega
   ·rw [if_neg h2,if_pos rfl]
    split
    ·omega
    ·split<;>omega)
 exact ⟨r,h2,h1⟩
theorem compactL_snoc:∀ (l:List Int) (a b:Int),compactL (l++[a]++[b])=if a=b then compactL (l++[a]) else compactL (l++[a])++[b]
 | [],a,b=>by
  simp only [List.nil_append,List.singleton_append,compactL]
  split<;>simp_all
 | [c],a,b=>by
  simp only [List.singleton_append,List.cons_append,List.nil_append,compactL]
  split<;>split<;>simp_all
 | c::d::r,a,b=>by
  have ih:=compactL_snoc (d::r) a b
  simp only [List.cons_append,compactL] at ih ⊢
  rw [ih]
  split<;>split<;>simp
theorem take_snoc {l:List Int} {m:Nat} {a:Int} (h:l[m]? = some a):l.take (m+1)=l.take m++[a]:=by
 rw [List.take_add_one,h];rfl
theorem compact_step {l:List Int} {m:Nat} {a b:Int} (ha:l[m]? = some a) (hb:l[m+1]? = some b):compactL (l.take (m+2))=if a=b then compactL (l.take (m+1)) else compactL (l.take (m+1))++[b]:=by
 have e1:l.take (m+2)=l.take m++[a]++[b]:=by rw [take_snoc (m:=m+1) hb,take_snoc ha]
 rw [e1,take_snoc ha,compactL_snoc]
namespace slices_Compact_sapi_Set_api_Set
theorem inner {l:List Int} {o:Nat} {φ:List Int×Bool→Prop} (ho:1≤o) (hol:o<l.length) (hl:l.length<4611686018427387904) (h:∀ b,φ (compactL l,b)) (n:Nat):∀ (s:List Int) (k k2:Nat),l.length-o-k2≤n→1≤k2→o+k2≤l.length→s.length=l.length→k≤o+k2-1→s.take k=compactL (l.take (o+k2))→(∀ i,o+k2-1≤i→s[i]? = l[i]?)→L2 s k o (l.length-o) k2 φ:=by
 have hend:∀ (s:List Int) (k k2:Nat),o+k2=l.length→s.length=l.length→k≤o+k2-1→s.take k=compactL (l.take (o+k2))→L2 s k o (l.length-o) k2 φ:=fun s k k2 hk2 hs hk ht=>by
  apply L2_step
  refine ⟨by omega,?_⟩
  rw [if_neg (by rw [List.length_take,List.length_drop];omega)]
  refine ⟨by omega,⟨by omega,by omega⟩,by omega,by omega,by omega,by omega,⟨by omega,by omega,by omega⟩,?_⟩
  rw [Int.toNat_natCast]
  have e:s.take k=compactL l:=by rw [ht,List.take_of_length_le (by omega)]
  rw [e]
  exact h _
 induction n with
 | zero=>intro s k k2 hn h1 hk2 hs hk ht hd;exact hend s k k2 (by omega) hs hk ht
 | succ n ih=>
  intro s k k2 hn h1 hk2 hs hk ht hd
  by_cases hlt:o+k2<l.length
  ·apply L2_step
   refine ⟨by omega,?_⟩
   rw [if_pos (by rw [List.length_take,List.length_drop];omega)]
   obtain ⟨b,hb⟩:∃ b,l[o+k2]? = some b:=⟨_,List.getElem?_eq_getElem hlt⟩
   obtain ⟨a,ha⟩:∃ a,l[o+k2-1]? = some a:=⟨_,List.getElem?_eq_getElem (by omega)⟩
   have e1:(o:Int)+(k2:Int)=((o+k2:Nat):Int):=by omega
   have e2:IntKind.wrap .i64 ((k2:Int)-1)=((k2-1:Nat):Int):=wx _ _ (by omega) (by omega)
   have e3:(o:Int)+((k2-1:Nat):Int)=((o+k2-1:Nat):Int):=by omega
   have e4:IntKind.wrap .i64 ((k2:Int)+1)=((k2+1:Nat):Int):=wx _ _ (by omega) (by omega)
   have e5:IntKind.wrap .i64 ((k:Int)+1)=((k+1:Nat):Int):=wx _ _ (by omega) (by omega)
   rw [e1,e2,e3]
   have hstep:=compact_step (l:=l) (m:=o+k2-1) ha (by rw [show o+k2-1+1=o+k2 by omega];exact hb)
   rw [show o+k2-1+2=o+(k2+1) by omega,show o+k2-1+1=o+k2 by omega] at hstep
   refine ⟨b,by rw [lget_nat,hd _ (by omega)];exact hb,⟨by omega,by omega⟩,by omega,a,by rw [lget_nat,hd _ (by omega)];exact ha,⟨by omega,by omega⟩,by omega,?_⟩
   by_cases hab:b=a
   ·rw [if_pos hab]
    apply L3_step
    rw [e4]
    rw [if_pos hab.symm] at hstep
    exact ih s k (k2+1) (by omega) (by omega) (by omega) hs (by omega) (by rw [ht,hstep]) (fun i hi=>hd i (by omega))
   ·rw [if_neg hab]
    rw [if_neg (fun h=>hab h.symm)] at hstep
    obtain ⟨c,hc⟩:∃ c,s[k]? = some c:=⟨_,List.getElem?_eq_getElem (by omega)⟩
    refine ⟨⟨by omega,by omega⟩,by omega,c,by rw [lget_nat];exact hc,?_⟩
    apply L3_step
    rw [e4,e5]
    have hls:lset s (k:Int) b=s.set k b:=by unfold lset;rw [Int.toNat_natCast]
    rw [hls]
    refine ih (s.set k b) (k+1) (k2+1) (by omega) (by omega) (by omega) (by rw [List.length_set];exact hs) (by omega) ?_ (fun i hi=>?_)
    ·rw [hstep,← ht,take_snoc (a:=b) (by rw [List.getElem?_set_self (by omega)])]
     congr 1
     rw [List.take_set_of_le (Nat.le_refl k)]
    ·rw [List.getElem?_set_ne (by omega)]
     exact hd i (by omega)
  ·exact hend s k k2 (by omega) hs hk ht
theorem outer {l:List Int} {φ:List Int×Bool→Prop} (hl:l.length<4611686018427387904) (h:∀ b,φ (compactL l,b)) (n:Nat):∀ i,l.length-i≤n→1≤i→i≤l.length→compactL (l.take i)=l.take i→L1 l i φ:=by
 induction n with
 | zero=>
  intro i hn h1 hi hc
  apply L1_step
  rw [if_neg (by omega)]
  have e:i=l.length:=by omega
  rw [e,List.take_length] at hc
  have:=h true
  rwa [hc] at this
 | succ n ih=>
  intro i hn h1 hi hc
  by_cases hlt:i<l.length
  ·apply L1_step
   rw [if_pos (by omega)]
   obtain ⟨b,hb⟩:∃ b,l[i]? = some b:=⟨_,List.getElem?_eq_getElem hlt⟩
   obtain ⟨a,ha⟩:∃ a,l[i-1]? = some a:=⟨_,List.getElem?_eq_getElem (by omega)⟩
   have e2:IntKind.wrap .i64 ((i:Int)-1)=((i-1:Nat):Int):=wx _ _ (by omega) (by omega)
   have e4:IntKind.wrap .i64 ((i:Int)+1)=((i+1:Nat):Int):=wx _ _ (by omega) (by omega)
   rw [e2,e4]
   have hstep:=compact_step (l:=l) (m:=i-1) ha (by rw [show i-1+1=i by omega];exact hb)
   rw [show i-1+2=i+1 by omega,show i-1+1=i by omega] at hstep
   refine ⟨b,by rw [lget_nat];exact hb,a,by rw [lget_nat];exact ha,?_⟩
   by_cases hab:b=a
   ·rw [if_pos hab]
    rw [if_pos hab.symm] at hstep
    refine ⟨by omega,⟨by omega,by omega⟩,?_⟩
    rw [Int.toNat_natCast]
    exact inner (o:=i) h1 hlt hl h (l.length-i-1) l i 1 (Nat.le_refl _) (Nat.le_refl _) (by omega) rfl (by omega) (by rw [hstep,hc]) (fun _ _=>rfl)
   ·rw [if_neg hab]
    rw [if_neg (fun h=>hab h.symm)] at hstep
    exact ih (i+1) (by omega) (by omega) (by omega) (by rw [hstep,hc,take_snoc hb])
  ·apply L1_step
   rw [if_neg (by omega)]
   have e:i=l.length:=by omega
   rw [e,List.take_length] at hc
   have:=h true
   rwa [hc] at this
theorem spec {l:List Int} (hl:l.length<4611686018427387904):∃ b,C l (compactL l,b):=by
 obtain ⟨r,⟨b,rfl⟩,h2⟩:=enter l (fun r=>∃ b,r=(compactL l,b)) (by
  split
  ·rename_i h
   refine ⟨true,?_⟩
   match l,h with
   | [],_=>rfl
   | [a],_=>rfl
   | _::_::_,h=>simp at h;omega
  ·rename_i h
   have:1≤l.length:=by omega
   exact outer hl (fun b=>⟨b,rfl⟩) (l.length-1) 1 (by omega) (by omega) this (by
    obtain ⟨a,r,rfl⟩:∃ a r,l=a::r:=by cases l with
     | nil=>simp at this
     | cons a r=>exact ⟨a,r,rfl⟩
    rfl))
 exact ⟨b,h2⟩
end slices_Compact_sapi_Set_api_Set
theorem attrset_Order.spec {l:List Int} (hl:l.length≤35184372088832) (hu:AllU l):attrset_Order.C l (ordL l):=by
 obtain ⟨r,h1,h2⟩:=attrset_Order.enter l (fun r=>r=ordL l) (by
  obtain ⟨s,c,hp,ha⟩:=slices_SortFunc_sapi_Set_api_Set_attrset_compare.spec cmpS_ok ltS_swo (l:=l) (by omega) hu
  have hlen:=hp.length_eq
  obtain ⟨b,c2⟩:=slices_Compact_sapi_Set_api_Set.spec (l:=s) (by omega)
  refine ⟨by omega,s,c,_,c2,?_⟩
  have hus:AllU s:=fun x hx=>hu x (hp.mem_iff.1 hx)
  refine ordL_eq hu (compactL_asc hus (ha.imp fun h=>?_)) fun y=>by rw [compactL_mem,hp.mem_iff]
  unfold ltS at h
  simp only [decide_eq_false_iff_not] at h
  omega)
 rw [← h1];exact h2
theorem drossref02_In.spec {l:List Int} {x:Int} (hl:l.length<9223372036854775807):drossref02_In.C l x (decide (x∈l)):=by
 obtain ⟨r,h1,h2⟩:=drossref02_In.enter l x (fun r=>r=decide (x∈l)) (by
  have e:decide (x∈l)=l.any fun a=>a == x:=by
   rw [Bool.eq_iff_iff]
   simp
  rw [e]
  refine any_loop (l:=l) (p:=fun a=>a == x) (L:=fun i=>drossref02_In.L1 l x i _) (φ:=fun r=>r=l.any fun a=>a == x) ?_ ?_ rfl
  ·intro h;apply drossref02_In.L1_step;rw [if_neg (by omega)];exact h
  ·intro k a ha hk h
   apply drossref02_In.L1_step
   rw [if_pos (by omega)]
   refine ⟨a,lget_of ha,?_⟩
   rw [wrap_succ (by omega)]
   by_cases hax:a=x
   ·rw [if_pos hax];rw [if_pos (by simpa using hax)] at h;exact h
   ·rw [if_neg hax];rw [if_neg (by simpa using hax)] at h;exact h)
 rw [← h1];exact h2
theorem pow16 {n:Nat} (hn:n≤16):2^n≤65536∧0<2^n:=⟨Nat.pow_le_pow_right (n:=2) (by omega) hn,Nat.pow_pos (by omega)⟩
namespace closure_Close
end closure_Close
namespace drossref09_Close
end drossref09_Close
theorem pow_full {n:Nat} (hn:n≤16):IntKind.wrap .u32 (shlw .u32 1 (n:Int)-1)=((2^n-1:Nat):Int):=by
 have hp:=pow16 hn
 have e:shlw .u32 1 (n:Int)=((2^n:Nat):Int):=shl1_nat (k:=.u32) (by simp only [top];omega)
 rw [e,show (((2^n:Nat):Int)-1)=((2^n-1:Nat):Int) by omega]
 exact wrap_top (k:=.u32) (by simp only [top];omega)
theorem full_small {n:Nat} (hn:n≤16):fullN n=2^n-1:=by unfold fullN;rw [Nat.min_eq_left (by omega)]
def errA (n:Int) (l:List api_FD):Int:=if fdsE n l=0 then (if 10<n then 3 else 0) else fdsE n l
theorem errA_n {n:Int} {l:List api_FD} (h:errA n l=0):0≤n∧n≤10∧fdsE n l=0:=by
 unfold errA at h
 split at h
 ·rename_i h0
  have:=fdsE_n h0
  split at h
  ·cases h
  ·exact ⟨by omega,by omega,h0⟩
 ·rename_i h0;exact absurd h h0
theorem full_spec {n:Nat} (hn:n≤16):drossref02_Full.C n ((2^n-1:Nat):Int):=by
 rw [← full_small hn];exact drossref02_Full.spec
def FdIn (n:Nat) (l:List api_FD):Prop:=∀ d∈l,sN d.Lhs<2^n∧sN d.Rhs<2^n
theorem fdsE_in {n:Int} {l:List api_FD} (h:fdsE n l=0):FdIn n.toNat l:=by
 unfold fdsE at h
 split at h
 ·cases h
 ·split at h
  ·cases h
  ·split at h
   ·rename_i ha
    intro d hd
    have:=List.all_eq_true.1 ha d hd
    unfold inU at this
    simp only [Bool.and_eq_true,decide_eq_true_eq] at this
    exact this
   ·cases h
def abcK:List ByteArray:=[⟨#[97]⟩,⟨#[98]⟩,⟨#[99]⟩,⟨#[100]⟩,⟨#[101]⟩,⟨#[102]⟩,⟨#[103]⟩,⟨#[104]⟩,⟨#[105]⟩,⟨#[106]⟩,⟨#[107]⟩,⟨#[108]⟩,⟨#[109]⟩,⟨#[110]⟩,⟨#[111]⟩,⟨#[112]⟩]
theorem abcK_enc:∀ i:Fin 16,Utf8.encode (IntKind.wrap .i32 (IntKind.wrap .i64 (97+(i.val:Int))))=(abcK[i.val]?).getD ⟨#[]⟩:=by decide +kernel
theorem abcK_take {k:Nat} (h:k<16):abcK.take (k+1)=abcK.take k++[(abcK[k]?).getD ⟨#[]⟩]:=by
 have hl:abcK.length=16:=rfl
 rw [List.take_add_one,List.getElem?_eq_getElem (by omega)];rfl
theorem abcK_len {n:Nat} (hn:n≤16):(abcK.take n).length=n:=by
 have hl:abcK.length=16:=rfl
 rw [List.length_take];omega
def bitV (b:Bool):api_Value:=⟨1,if b=true then 1 else 0,⟨#[]⟩⟩
def rowV (n m:Nat):List api_Value:=(List.range n).map fun i=>bitV (m.testBit i)
theorem rowV_len {n m:Nat}:(rowV n m).length=n:=by simp [rowV]
theorem rowV_succ {n m:Nat}:rowV (n+1) m=rowV n m++[bitV (m.testBit n)]:=by
 unfold rowV;rw [List.range_succ,List.map_append];rfl
theorem rowV_get {n m a:Nat} (ha:a<n):(rowV n m)[a]? = some (bitV (m.testBit a)):=by
 unfold rowV;rw [List.getElem?_map,List.getElem?_range ha];rfl
def noT20:api_Table:=⟨⟨#[]⟩,[],[]⟩
namespace refute_build
theorem cells {n:Nat} {xs:List Int} {ats:List ByteArray} {rows:List api_Row} {m k:Nat} {id:Int} {φ:api_Table→Prop} (hn:n≤16) (hm:m<2^32) (hr:rows.length≤2000) (hk:k≤2000)
  (h:L2 n xs ats (rows++[⟨id,rowV n m⟩]) ((k+1:Nat):Int) φ):∀ (d i:Nat),d+i=n→L3 n xs ats rows (m:Int) id (rowV i m) k i φ
 | 0,i,hd=>by
  have:i=n:=by omega
  subst this
  apply L3_step
  rw [if_neg (by omega),wrap_succ (by omega)]
  exact ⟨by omega,h⟩
 | d+1,i,hd=>by
  have next:=cells hn hm hr hk h d (i+1) (by omega)
  rw [rowV_succ] at next
  apply L3_step
  rw [if_pos (by omega),wrap_succ (by omega)]
  refine ⟨by omega,by rw [rowV_len];omega,?_⟩
  have e:IntKind.wrap .i64 (bAnd .u32 (shrw .u32 (m:Int) (i:Int)) 1)=if m.testBit i=true then 1 else 0:=by
   rw [bit_nat (k:=.u32) (by simpa [top] using hm) (by decide)]
   split<;>decide
  rw [e]
  exact next
end refute_build
theorem refute_within.spec {n:Nat} {l r:Int} (hl:U32 l) (hr:U32 r):refute_within.C n (bOr .u32 l r) (inU n l r):=by
 obtain ⟨q,h1,h2⟩:=refute_within.enter n (bOr .u32 l r) (fun q=>q=inU n l r) ⟨by omega,by
  have e0:bOr .u32 l r=((sN l ||| sN r:Nat):Int):=by
   conv=>lhs;rw [hl.eq,hr.eq]
   exact bOr_nat hl.top hr.top
  have hlt:sN l ||| sN r<2^32:=Nat.or_lt_two_pow hl.lt hr.lt
  rw [e0]
  have e1:IntKind.wrap .u64 ((sN l ||| sN r:Nat):Int)=((sN l ||| sN r:Nat):Int):=by
   unfold IntKind.wrap;simp only [IntKind.bits,IntKind.signed,Bool.false_and,Bool.false_eq_true,if_false];omega
  rw [e1,shrw_nat (k:=.u64) (Nat.lt_trans hlt (by decide))]
  refine Bool.eq_iff_iff.2 ?_
  rw [beq_iff_eq]
  unfold inU
  rw [Bool.and_eq_true,decide_eq_true_iff,decide_eq_true_iff,← or_lt,← div_zero]
  omega⟩
 rw [← h1];exact h2
namespace drossref20_FD
end drossref20_FD
theorem name20 {b:UInt8} (h:(letB (u8i b)&&true)=true):nameF ⟨#[b]⟩=true:=by
 unfold nameF
 have e:(⟨#[b]⟩:ByteArray).toList=[b]:=bl_mk (l:=[b])
 rw [e]
 simp only [nameL,List.length_nil,List.all_nil,Bool.and_true] at h ⊢
 rw [h]
 have:decide ([b]=nullB)=false:=decide_eq_false (by unfold nullB;simp)
 rw [this];rfl
theorem names20:∀ (r pre:List ByteArray),(∀ x∈r,nameF x=true)→(pre++r).Nodup→namesGo pre r=true
 | [],_,_,_=>rfl
 | a::r,pre,hn,hd=>by
  rw [namesGo,hn a (by simp),names20 r (pre++[a]) (fun x hx=>hn x (by simp [hx])) (by rw [List.append_assoc];exact hd)]
  have:pre.any (eqS a)=false:=by
   rw [List.any_eq_false]
   intro x hx
   unfold eqS
   rw [decide_eq_true_iff]
   intro he
   subst he
   rw [List.nodup_append] at hd
   exact hd.2.2 x hx x (by simp) rfl
  rw [this];rfl
theorem abcK_names {m:Nat}:namesF (abcK.take m)=true:=by
 unfold namesF
 refine names20 _ [] (fun x hx=>?_) ?_
 ·have hx:=List.mem_of_mem_take hx
  unfold abcK at hx
  simp only [List.mem_cons,List.not_mem_nil,or_false] at hx
  rcases hx with rfl | rfl | rfl | rfl | rfl | rfl | rfl | rfl | rfl | rfl | rfl | rfl | rfl | rfl | rfl | rfl<;>exact name20 (by decide)
 ·rw [List.nil_append]
  have:abcK.Nodup:=by decide +kernel
  exact this.sublist (List.take_sublist _ _)
theorem rowV_valid {n m:Nat}:validsF (rowV n m)=true:=by
 unfold validsF
 rw [List.all_eq_true]
 intro v hv
 obtain ⟨i,_,rfl⟩:=List.mem_map.1 hv
 unfold validV
 rw [decide_eq_true_iff]
 exact .inr (.inl ⟨rfl,bl_nil⟩)
theorem drossref08_sat {t:api_Table} (ht:TV t) {d:api_FD} (hl:U32 d.Lhs) (hr:U32 d.Rhs):∃ b,drossref08_Satisfies.C t d b∧(b=true↔SatP t (sN d.Lhs) (sN d.Rhs)):=
 drossref08_Satisfies.spec ht hl.eq hr.eq hl.lt hr.lt
namespace drossref20_Right
end drossref20_Right
def lN (R:List Nat):List Int:=R.map fun (m:Nat)=>(m:Int)
theorem lN_len {R:List Nat}:(lN R).length=R.length:=by simp [lN]
theorem lN_mem {R:List Nat} {x:Nat}:(x:Int)∈lN R↔x∈R:=by
 unfold lN
 rw [List.mem_map]
 constructor
 ·rintro ⟨a,ha,he⟩
  obtain rfl:a=x:=by omega
  exact ha
 ·intro h;exact ⟨x,h,rfl⟩
theorem lN_get {R:List Nat} {i r:Nat} (h:R[i]? = some r):lget (lN R) (i:Int)=some (r:Int):=lget_of (by simp [lN,h])
def fN (d:api_FD):Nat×Nat:=(sN d.Lhs,sN d.Rhs)
def mN (d:api_MVD):Nat×Nat:=(sN d.Lhs,sN d.Rhs)
theorem top32 {a:Nat} (h:a<2^32):a<2^top .u32:=by simpa [top] using h
theorem xorAnd {a b:Nat} {l:Int} (ha:a<2^32) (hb:b<2^32) (hl:U32 l):bAnd .u32 (bXor .u32 (a:Int) (b:Int)) l=(((a ^^^ b) &&& sN l:Nat):Int):=by
 rw [bXor_nat (top32 ha) (top32 hb)]
 conv=>lhs;rw [hl.eq]
 exact bAnd_nat (top32 (Nat.xor_lt_two_pow ha hb)) hl.top
theorem agree0 {a b:Nat} {l:Int} (ha:a<2^32) (hb:b<2^32) (hl:U32 l):bAnd .u32 (bXor .u32 (a:Int) (b:Int)) l=0↔agreeR (sN l) a b:=by
 rw [xorAnd ha hb hl,← agreeR_iff];omega
theorem mixI {l r:Int} (hl:U32 l) (hr:U32 r) {a b:Nat} (ha:a<2^32) (hb:b<2^32):bOr .u32 (bAnd .u32 (a:Int) (bOr .u32 l r)) (bAndNot .u32 (b:Int) (bOr .u32 l r))=((mixR (sN l,sN r) a b:Nat):Int):=by
 have e:bOr .u32 l r=((sN l ||| sN r:Nat):Int):=by
  conv=>lhs;rw [hl.eq,hr.eq]
  exact bOr_nat hl.top hr.top
 have h1:sN l ||| sN r<2^32:=Nat.or_lt_two_pow hl.lt hr.lt
 rw [e,bAnd_nat (top32 ha) (top32 h1),bAndNot_nat (top32 hb) (top32 h1),bOr_nat (top32 (Nat.lt_of_le_of_lt Nat.and_le_left ha)) (top32 (Nat.lt_of_le_of_lt ndiff_le hb))]
 rfl
theorem drossref13_Two_put.spec {R:List Nat} {x:Nat} (hl:R.length≤1000000):drossref13_Two_put.C (x:Int) (lN R) (decide (x ∉ R),⟨lN (if x∈R then R else R++[x])⟩):=by
 obtain ⟨r,h1,h2⟩:=drossref13_Two_put.enter (x:Int) (lN R) (fun r=>r=(decide (x ∉ R),⟨lN (if x∈R then R else R++[x])⟩)) (by
  refine ⟨_,drossref02_In.spec (by rw [lN_len];omega),?_⟩
  by_cases h:x∈R
  ·rw [if_pos (by rw [decide_eq_true_eq];exact lN_mem.2 h)];simp [h]
  ·rw [if_neg (by rw [decide_eq_true_eq];exact fun hh=>h (lN_mem.1 hh))]
   exact ⟨by rw [lN_len];omega,by simp [h,lN]⟩)
 rw [← h1];exact h2
theorem take_get {R:List Nat} {k a:Nat} (h:R[k]? = some a) {q:Nat}:q∈R.take (k+1)↔q∈R.take k∨q=a:=by
 rw [List.take_add_one,h,List.mem_append];simp
namespace drossref13_Two_equate
theorem loop {R:List Nat} {s:Nat} (hs:s<2^32) (hR:∀ r∈R,r<2^32) (hl:R.length≤1000) {φ:drossref13_Two→Prop}:∀ (r:List Nat) (k:Nat) (A:List Nat),R.drop k=r→A.length≤k→A.Nodup→(∀ u,u∈A↔∃ q∈R.take k,u=ndiff q s) →
  (∀ A':List Nat,A'.Nodup→(∀ u,u∈A'↔∃ q∈R,u=ndiff q s)→φ ⟨lN A'⟩)→L1 (s:Int) (lN R) k (lN A) φ:=by
 intro r
 induction r with
 | nil=>
  intro k A hd hk hn hm h
  have:=drop_ge hd
  apply L1_step
  rw [if_neg (by rw [lN_len];omega)]
  refine h A hn fun u=>?_
  rw [hm u,List.take_of_length_le this]
 | cons a r ih=>
  intro k A hd hk hn hm h
  have hlt:=drop_lt hd
  have ha:=drop_get hd
  have ha32:=hR a (List.mem_of_getElem? ha)
  apply L1_step
  rw [if_pos (by rw [lN_len];omega)]
  refine ⟨_,lN_get ha,?_⟩
  rw [bAndNot_nat (top32 ha32) (top32 hs)]
  refine ⟨_,drossref13_Two_put.spec (by omega),?_⟩
  rw [wrap_succ (by omega)]
  refine ih (k+1) _ (drop_next hd) ?_ ?_ ?_ h
  ·split
   ·omega
   ·rw [List.length_append,List.length_singleton];omega
  ·split
   ·exact hn
   ·rename_i hni
    rw [List.nodup_append]
    exact ⟨hn,by simp,fun x hx y hy=>by simp only [List.mem_singleton] at hy;subst hy;rintro rfl;exact hni hx⟩
  ·intro u
   split
   ·rename_i hin
    rw [hm u]
    constructor
    ·rintro ⟨q,h1,h2⟩;exact ⟨q,(take_get ha).2 (.inl h1),h2⟩
    ·rintro ⟨q,h1,rfl⟩
     rcases (take_get ha).1 h1 with h1 | rfl
     ·exact ⟨q,h1,rfl⟩
     ·exact (hm _).1 hin
   ·rw [List.mem_append,hm u,List.mem_singleton]
    constructor
    ·rintro (⟨q,h1,h2⟩ | rfl)
     ·exact ⟨q,(take_get ha).2 (.inl h1),h2⟩
     ·exact ⟨a,(take_get ha).2 (.inr rfl),rfl⟩
    ·rintro ⟨q,h1,rfl⟩
     rcases (take_get ha).1 h1 with h1 | rfl
     ·exact .inl ⟨q,h1,rfl⟩
     ·exact .inr rfl
theorem spec {R:List Nat} {s:Nat} (hs:s<2^32) (hR:∀ r∈R,r<2^32) (hl:R.length≤1000):∃ A:List Nat,A.Nodup∧(∀ u,u∈A↔∃ q∈R,u=ndiff q s)∧C (s:Int) (lN R) ⟨lN A⟩:=by
 obtain ⟨r,⟨A,h1,h2,rfl⟩,h3⟩:=enter (s:Int) (lN R) (fun r=>∃ A:List Nat,A.Nodup∧(∀ u,u∈A↔∃ q∈R,u=ndiff q s)∧r=⟨lN A⟩)
  (loop hs hR hl R 0 [] rfl (Nat.le_refl 0) List.nodup_nil (fun u=>by simp) fun A' h1 h2=>⟨A',h1,h2,rfl⟩)
 exact ⟨A,h1,h2,h3⟩
end drossref13_Two_equate
def FdUsed (d:Nat×Nat) (R A:List Nat):Prop:=∃ r s D:Nat,r∈R∧s∈R∧agreeR d.1 r s∧D=(r ^^^ s) &&& d.2∧D≠0∧A.Nodup∧∀ u,u∈A↔∃ q∈R,u=ndiff q D
def FdDone (d:Nat×Nat) (R:List Nat):Prop:=∀ r s,r∈R→s∈R→agreeR d.1 r s→agreeR d.2 r s
namespace drossref13_Two_fd
theorem loop {R:List Nat} {d:api_FD} (hd:U32 d.Lhs∧U32 d.Rhs) (hR:∀ r∈R,r<2^32) (hl:R.length≤1000) {φ:Bool×drossref13_Two→Prop} (h1:∀ A:List Nat,FdUsed (fN d) R A→φ (true,⟨lN A⟩)) (h2:FdDone (fN d) R→φ (false,⟨lN R⟩)) :
  ∀ (l:List Nat) (i:Nat),R.drop i=l→(∀ j r s,j<i→R[j]? = some r→s∈R→agreeR (fN d).1 r s→agreeR (fN d).2 r s)→L1 d (i:Int) (lN R) φ:=by
 intro l
 induction l with
 | nil=>
  intro i hi hdone
  have:=drop_ge hi
  apply L1_step
  rw [if_neg (by rw [lN_len];omega)]
  refine h2 fun r s hr hs=>?_
  obtain ⟨j,hj⟩:=List.getElem?_of_mem hr
  exact hdone j r s (by have:=(List.getElem?_eq_some_iff.1 hj).1;omega) hj hs
 | cons a l ih=>
  intro i hi hdone
  have hlt:=drop_lt hi
  have ha:=drop_get hi
  have ham:=List.mem_of_getElem? ha
  apply L1_step
  rw [if_pos (by rw [lN_len];omega)]
  have inner:∀ (l2:List Nat) (k:Nat),R.drop k=l2→(∀ j s,j<k→R[j]? = some s→agreeR (fN d).1 a s→agreeR (fN d).2 a s)→L2 d (i:Int) (k:Int) (lN R) φ:=by
   intro l2
   induction l2 with
   | nil=>
    intro k hk hk2
    have:=drop_ge hk
    apply L2_step
    rw [if_neg (by rw [lN_len];omega),wrap_succ (by omega)]
    refine ih (i+1) (drop_next hi) fun j r s hj hr hs=>?_
    by_cases hji:j=i
    ·subst hji
     rw [ha] at hr;cases hr
     obtain ⟨q,hq⟩:=List.getElem?_of_mem hs
     exact hk2 q s (by have:=(List.getElem?_eq_some_iff.1 hq).1;omega) hq
    ·exact hdone j r s (by omega) hr hs
   | cons b l2 ih2=>
    intro k hk hk2
    have hklt:=drop_lt hk
    have hb:=drop_get hk
    have hbm:=List.mem_of_getElem? hb
    have next:(agreeR (fN d).1 a b→agreeR (fN d).2 a b)→L3 d (i:Int) (k:Int) (lN R) φ:=fun hn=>by
     apply L3_step
     rw [wrap_succ (by omega)]
     refine ih2 (k+1) (drop_next hk) fun j s hj hs=>?_
     by_cases hjk:j=k
     ·subst hjk;rw [hb] at hs;cases hs;exact hn
     ·exact hk2 j s (by omega) hs
    apply L2_step
    rw [if_pos (by rw [lN_len];omega)]
    refine ⟨_,lN_get ha,_,lN_get hb,?_⟩
    by_cases h0:agreeR (sN d.Lhs) a b
    ·rw [if_pos ((agree0 (hR a ham) (hR b hbm) hd.1).2 h0)]
     by_cases h3:agreeR (sN d.Rhs) a b
     ·rw [if_pos ((agree0 (hR a ham) (hR b hbm) hd.2).2 h3)]
      exact next fun _=>h3
     ·rw [if_neg fun hh=>h3 ((agree0 (hR a ham) (hR b hbm) hd.2).1 hh)]
      rw [xorAnd (hR a ham) (hR b hbm) hd.2]
      obtain ⟨A,a1,a2,a3⟩:=drossref13_Two_equate.spec (R:=R) (s:=(a ^^^ b) &&& sN d.Rhs) (Nat.lt_of_le_of_lt Nat.and_le_right hd.2.lt) hR hl
      exact ⟨_,a3,h1 A ⟨a,b,_,ham,hbm,h0,rfl,fun hz=>h3 (agreeR_iff.1 hz),a1,a2⟩⟩
    ·rw [if_neg fun hh=>h0 ((agree0 (hR a ham) (hR b hbm) hd.1).1 hh)]
     exact next fun hn=>absurd hn h0
  exact inner R 0 rfl fun j s hj=>absurd hj (Nat.not_lt_zero j)
theorem spec {R:List Nat} {d:api_FD} (hd:U32 d.Lhs∧U32 d.Rhs) (hR:∀ r∈R,r<2^32) (hl:R.length≤1000):(∃ A,FdUsed (fN d) R A∧C d (lN R) (true,⟨lN A⟩))∨(FdDone (fN d) R∧C d (lN R) (false,⟨lN R⟩)):=by
 obtain ⟨r,h1,h2⟩:=enter d (lN R) (fun r=>(∃ A,FdUsed (fN d) R A∧r=(true,⟨lN A⟩))∨(FdDone (fN d) R∧r=(false,⟨lN R⟩)))
  (loop hd hR hl (fun A hA=>.inl ⟨A,hA,rfl⟩) (fun h=>.inr ⟨h,rfl⟩) R 0 rfl fun j r s hj=>absurd hj (Nat.not_lt_zero j))
 rcases h1 with ⟨A,hA,rfl⟩ | ⟨h,rfl⟩
 ·exact .inl ⟨A,hA,h2⟩
 ·exact .inr ⟨h,h2⟩
end drossref13_Two_fd
def MvDone (m:Nat×Nat) (R:List Nat):Prop:=∀ r s,r∈R→s∈R→agreeR m.1 r s→mixR m r s∈R
structure Grows (m:Nat×Nat) (I:List Nat→Prop):Prop where
 lt:∀ R,I R→∀ r∈R,r<2^32
 len:∀ R,I R→R.length≤64
 add:∀ R r s,I R→r∈R→s∈R→agreeR m.1 r s→mixR m r s ∉ R→I (R++[mixR m r s])
namespace drossref13_Two_mvd
theorem loop {R0:List Nat} {m:api_MVD} (hd:U32 m.Lhs∧U32 m.Rhs) {I:List Nat→Prop} (hI:Grows (mN m) I) {φ:Bool×drossref13_Two→Prop} (h1:∀ (ch:Bool) (A:List Nat),I A→(if ch=true then R0.length<A.length else A=R0∧MvDone (mN m) R0)→φ (ch,⟨lN A⟩)) :
  ∀ (a:Nat) (R:List Nat),I R→64-R.length≤a→R0.length≤R.length →
   (∀ (i:Nat) (ch:Bool),(if ch=true then R0.length<R.length else R=R0∧∀ j r s,j<i→R0[j]? = some r→s∈R0→agreeR (mN m).1 r s→mixR (mN m) r s∈R0)→L1 m ch (i:Int) (lN R) φ) ∧
   (∀ (i k:Nat) (x:Nat),R[i]? = some x→R0.length<R.length→L2 m true (i:Int) (k:Int) (lN R) φ):=by
 intro a
 induction a using Nat.strongRecOn with
 | _ a iha=>
 intro R hR ha hlen
 have hl64:=hI.len R hR
 have main:∀ (b i:Nat),b=R.length-i →
   (∀ (ch:Bool),(if ch=true then R0.length<R.length else R=R0∧∀ j r s,j<i→R0[j]? = some r→s∈R0→agreeR (mN m).1 r s→mixR (mN m) r s∈R0)→L1 m ch (i:Int) (lN R) φ) ∧
   (∀ (ch:Bool) (x:Nat),R[i]? = some x→(if ch=true then R0.length<R.length else R=R0∧∀ j r s,j<i→R0[j]? = some r→s∈R0→agreeR (mN m).1 r s→mixR (mN m) r s∈R0) →
    ∀ (c k:Nat),c=R.length-k→(ch=false→∀ j s,j<k→R[j]? = some s→agreeR (mN m).1 x s→mixR (mN m) x s∈R)→L2 m ch (i:Int) (k:Int) (lN R) φ):=by
  intro b
  induction b with
  | zero=>
   intro i hb
   refine ⟨fun ch hch=>?_,fun ch x hx=>by have:=(List.getElem?_eq_some_iff.1 hx).1;omega⟩
   apply L1_step
   rw [if_neg (by rw [lN_len];omega)]
   refine h1 ch R hR ?_
   cases ch with
   | true=>simpa using hch
   | false=>
    simp only [Bool.false_eq_true,if_false] at hch ⊢
    obtain ⟨rfl,hc⟩:=hch
    refine ⟨rfl,fun r s hr hs=>?_⟩
    obtain ⟨j,hj⟩:=List.getElem?_of_mem hr
    exact hc j r s (by have:=(List.getElem?_eq_some_iff.1 hj).1;omega) hj hs
  | succ b ihb=>
   intro i hb
   have second:∀ (ch:Bool) (x:Nat),R[i]? = some x→(if ch=true then R0.length<R.length else R=R0∧∀ j r s,j<i→R0[j]? = some r→s∈R0→agreeR (mN m).1 r s→mixR (mN m) r s∈R0) →
    ∀ (c k:Nat),c=R.length-k→(ch=false→∀ j s,j<k→R[j]? = some s→agreeR (mN m).1 x s→mixR (mN m) x s∈R)→L2 m ch (i:Int) (k:Int) (lN R) φ:=by
    intro ch x hx hch c
    have hxm:=List.mem_of_getElem? hx
    induction c with
    | zero=>
     intro k hk hk2
     apply L2_step
     rw [if_neg (by rw [lN_len];omega),wrap_succ (by omega)]
     refine (ihb (i+1) (by omega)).1 ch ?_
     cases ch with
     | true=>simpa using hch
     | false=>
      simp only [Bool.false_eq_true,if_false] at hch ⊢
      obtain ⟨rfl,hc⟩:=hch
      refine ⟨rfl,fun j r s hj hr hs=>?_⟩
      by_cases hji:j=i
      ·subst hji
       rw [hx] at hr;cases hr
       obtain ⟨q,hq⟩:=List.getElem?_of_mem hs
       exact hk2 rfl q s (by have:=(List.getElem?_eq_some_iff.1 hq).1;omega) hq
      ·exact hc j r s (by omega) hr hs
    | succ c ihc=>
     intro k hk hk2
     have hklt:k<R.length:=by omega
     obtain ⟨y,hy⟩:∃ y,R[k]? = some y:=⟨R[k],List.getElem?_eq_getElem hklt⟩
     have hym:=List.mem_of_getElem? hy
     have hx32:=hI.lt R hR x hxm
     have hy32:=hI.lt R hR y hym
     have stay:(agreeR (mN m).1 x y→mixR (mN m) x y∈R)→L3 m ch (i:Int) (k:Int) (lN R) φ:=fun hn=>by
      apply L3_step
      rw [wrap_succ (by omega)]
      refine ihc (k+1) (by omega) fun hc j s hj hs=>?_
      by_cases hjk:j=k
      ·subst hjk;rw [hy] at hs;cases hs;exact hn
      ·exact hk2 hc j s (by omega) hs
     apply L2_step
     rw [if_pos (by rw [lN_len];omega)]
     refine ⟨_,lN_get hx,_,lN_get hy,?_⟩
     by_cases h0:agreeR (sN m.Lhs) x y
     ·rw [if_pos ((agree0 hx32 hy32 hd.1).2 h0),mixI hd.1 hd.2 hx32 hy32]
      refine ⟨_,drossref13_Two_put.spec (by omega),?_⟩
      by_cases hin:mixR (sN m.Lhs,sN m.Rhs) x y∈R
      ·rw [if_neg (by simp [hin])]
       simp only [if_pos hin]
       exact stay fun _=>hin
      ·rw [if_pos (by simp [hin])]
       simp only [if_neg hin]
       have hR':=hI.add R x y hR hxm hym h0 hin
       have hlen':(R++[mixR (sN m.Lhs,sN m.Rhs) x y]).length=R.length+1:=by simp
       have h64:=hI.len _ hR'
       rw [show (mN m)=(sN m.Lhs,sN m.Rhs) from rfl] at hR' h64
       apply L3_step
       rw [wrap_succ (by omega)]
       refine (iha (64-(R++[mixR (sN m.Lhs,sN m.Rhs) x y]).length) (by omega) _ hR' (Nat.le_refl _) (by omega)).2 i (k+1) x ?_ (by omega)
       rw [List.getElem?_append_left (List.getElem?_eq_some_iff.1 hx).1];exact hx
     ·rw [if_neg fun hh=>h0 ((agree0 hx32 hy32 hd.1).1 hh)]
      exact stay fun hn=>absurd hn h0
   refine ⟨fun ch hch=>?_,second⟩
   have hilt:i<R.length:=by omega
   obtain ⟨x,hx⟩:∃ x,R[i]? = some x:=⟨R[i],List.getElem?_eq_getElem hilt⟩
   apply L1_step
   rw [if_pos (by rw [lN_len];omega)]
   exact second ch x hx hch R.length 0 rfl fun _ j s hj=>absurd hj (Nat.not_lt_zero j)
 exact ⟨fun i ch hch=>(main _ i rfl).1 ch hch,fun i k x hx h=>(main _ i rfl).2 true x hx (by simpa using h) _ k rfl fun hq=>by cases hq⟩
theorem spec {R:List Nat} {m:api_MVD} (hd:U32 m.Lhs∧U32 m.Rhs) {I:List Nat→Prop} (hI:Grows (mN m) I) (hR:I R):(∃ A,I A∧R.length<A.length∧C m (lN R) (true,⟨lN A⟩))∨(MvDone (mN m) R∧C m (lN R) (false,⟨lN R⟩)):=by
 obtain ⟨r,h1,h2⟩:=enter m (lN R) (fun r=>(∃ A,I A∧R.length<A.length∧r=(true,⟨lN A⟩))∨(MvDone (mN m) R∧r=(false,⟨lN R⟩)))
  ((loop (R0:=R) hd hI (fun ch A hA h=>by
   cases ch with
   | true=>exact .inl ⟨A,hA,by simpa using h,rfl⟩
   | false=>
    simp only [Bool.false_eq_true,if_false] at h
    obtain ⟨rfl,h⟩:=h
    exact .inr ⟨h,rfl⟩) 64 R hR (by omega) (Nat.le_refl _)).1 0 false (by simp only [Bool.false_eq_true,if_false];exact ⟨trivial,fun j r s hj=>absurd hj (Nat.not_lt_zero j)⟩))
 rcases h1 with ⟨A,hA,hl,rfl⟩ | ⟨h,rfl⟩
 ·exact .inl ⟨A,hA,hl,h2⟩
 ·exact .inr ⟨h,h2⟩
end drossref13_Two_mvd
def Rows13 (fds:List (Nat×Nat)) (bs:List Nat) (rest live:Nat) (R:List Nat):Prop:=R.Nodup∧CI fds bs rest live fun u=>u∈R
section
variable {fds mvds:List (Nat×Nat)} {bs:List Nat} {rest live:Nat}
theorem Rows13.lt {R:List Nat} (h:Rows13 fds bs rest live R) {n:Nat} (hr:rest<2^n) {r:Nat} (hm:r∈R):r<2^n:=
 lt_iff.2 fun i hi=>lt_iff.1 hr i (h.2.lsub i (h.2.sub r hm i hi))
theorem Rows13.len {R:List Nat} (h:Rows13 fds bs rest live R) (hr:rest<2^6):R.length≤64:=nodup_le h.1 fun _ hx=>h.lt hr hx
theorem Rows13.grows (hp:BPart rest bs) (hf:BFin (allMv fds mvds) bs) (hr:rest<2^6) {m:Nat×Nat} (hm:m∈mvds):Grows m (Rows13 fds bs rest live) where
 lt R h r hr':=Nat.lt_of_lt_of_le (h.lt hr hr') (by decide)
 len R h:=h.len hr
 add R r s h hr' hs ha hn:=by
  refine ⟨?_,?_⟩
  ·rw [List.nodup_append]
   exact ⟨h.1,by simp,fun x hx y hy=>by simp only [List.mem_singleton] at hy;subst hy;rintro rfl;exact hn hx⟩
  ·have:=h.2.mv hp (hf m (List.mem_append_left _ hm)) hr' hs ha
   have e:(fun u=>u∈R++[mixR m r s])=fun u=>u∈R∨u=mixR m r s:=by funext u;simp
   rw [e];exact this
theorem Rows13.used (hp:BPart rest bs) (hf:BFin (allMv fds mvds) bs) (hr:rest<2^6) {d:Nat×Nat} (hd:d∈fds) (hd32:d.2<2^32) {R A:List Nat} (h:Rows13 fds bs rest live R) (hu:FdUsed d R A):∃ live',live'<live∧Rows13 fds bs rest live' A:=by
 obtain ⟨r,s,D,h1,h2,h3,rfl,h5,h6,h7⟩:=hu
 have hD:∀ i,((r ^^^ s) &&& d.2).testBit i=true→d.2.testBit i=true∧∃ r s,r∈R∧s∈R∧agreeR d.1 r s∧r.testBit i≠s.testBit i:=by
  intro i hi
  rw [Nat.testBit_and,Bool.and_eq_true,Nat.testBit_xor] at hi
  refine ⟨hi.2,r,s,h1,h2,h3,fun he=>?_⟩
  rw [he] at hi;simp at hi
 refine ⟨ndiff live ((r ^^^ s) &&& d.2),?_,h6,?_⟩
 ·refine Nat.lt_of_le_of_ne ndiff_le fun he=>?_
  obtain ⟨i,hi⟩:=ne_bit h5
  have hl:live.testBit i=true:=by
   rw [Nat.testBit_and,Bool.and_eq_true,Nat.testBit_xor] at hi
   cases hq:r.testBit i with
   | true=>exact h.2.sub r h1 i hq
   | false=>
    rw [hq] at hi
    exact h.2.sub s h2 i (by simpa using hi.1)
  have:=congrArg (fun x=>x.testBit i) he
  simp only [ndiff_bit,hi,hl] at this
  cases this
 ·have:=h.2.fd hp hf hd hd32 hD
  have e:(fun u=>u∈A)=fun u=>∃ q,q∈R∧u=ndiff q ((r ^^^ s) &&& d.2):=by funext u;rw [h7 u]
  rw [e];exact this
end
theorem splI_nat {l r:Int} (hl:U32 l) (hr:U32 r) {b:Nat} (hb:b<2^32):splI l r (b:Int)=splits (sN l,sN r) b:=by
 have e1:bAnd .u32 (b:Int) l=((b &&& sN l:Nat):Int):=by
  conv=>lhs;rw [hl.eq]
  exact bAnd_nat (top32 hb) hl.top
 have e2:bAnd .u32 (b:Int) r=((b &&& sN r:Nat):Int):=by
  conv=>lhs;rw [hr.eq]
  exact bAnd_nat (top32 hb) hr.top
 have e3:bAndNot .u32 (b:Int) r=((ndiff b (sN r):Nat):Int):=by
  conv=>lhs;rw [hr.eq]
  exact bAndNot_nat (top32 hb) hr.top
 have z:∀ x:Nat,(((x:Nat):Int) == 0)=decide (x=0):=fun x=>by
  rw [Bool.eq_iff_iff,beq_iff_eq,decide_eq_true_eq];omega
 have z2:∀ x:Nat,(((x:Nat):Int) != 0)=decide (x≠0):=fun x=>by
  rw [Bool.eq_iff_iff,bne_iff_ne,decide_eq_true_eq];omega
 unfold splI splits
 rw [e1,e2,e3,z,z2,z2]
theorem inner_nat {m:Int×Int} (hl:U32 m.1) (hr:U32 m.2):∀ (S P N:List Nat) (ag:Bool),(∀ b∈S,b<2^32)→P.length+S.length+N.length+S.length≤1000000 →
  innerI m.1 m.2 S.length P.length (lN (P++S++N),ag)=some (lN (P++S.map (fun b=>if splits (sN m.1,sN m.2) b=true then b &&& sN m.2 else b)++(N++(S.filter (splits (sN m.1,sN m.2))).map fun b=>ndiff b (sN m.2))),ag || S.any (splits (sN m.1,sN m.2)))
 | [],P,N,ag,_,_=>by simp [innerI]
 | b::S,P,N,ag,hS,hlen=>by
  have hb:=hS b (by simp)
  simp only [List.length_cons] at hlen
  have hget:(lN (P++(b::S)++N))[P.length]? = some (b:Int):=by
   unfold lN
   rw [List.getElem?_map,List.append_assoc,List.getElem?_append_right (Nat.le_refl _)]
   simp
  simp only [List.length_cons,innerI,hget,splI_nat hl hr hb]
  cases hs:splits (sN m.1,sN m.2) b with
  | false=>
   simp only [Bool.false_eq_true,if_false]
   have:=inner_nat hl hr S (P++[b]) N ag (fun c hc=>hS c (by simp [hc])) (by simp;omega)
   simp only [List.length_append,List.length_singleton,List.append_assoc,List.singleton_append] at this ⊢
   rw [this]
   simp [hs]
  | true=>
   have e2:bAnd .u32 (b:Int) m.2=((b &&& sN m.2:Nat):Int):=by
    conv=>lhs;rw [hr.eq]
    exact bAnd_nat (top32 hb) hr.top
   have e3:bAndNot .u32 (b:Int) m.2=((ndiff b (sN m.2):Nat):Int):=by
    conv=>lhs;rw [hr.eq]
    exact bAndNot_nat (top32 hb) hr.top
   simp only [if_true]
   rw [if_pos (by rw [lN_len];simp;omega),e2,e3]
   have hset:(lN (P++(b::S)++N)).set P.length ((b &&& sN m.2:Nat):Int)++[((ndiff b (sN m.2):Nat):Int)]=lN ((P++[b &&& sN m.2])++S++(N++[ndiff b (sN m.2)])):=by
    unfold lN
    simp
   rw [hset]
   have:=inner_nat hl hr S (P++[b &&& sN m.2]) (N++[ndiff b (sN m.2)]) true (fun c hc=>hS c (by simp [hc])) (by simp;omega)
   simp only [List.length_append,List.length_singleton,List.append_assoc,List.singleton_append] at this ⊢
   rw [this]
   simp [hs]
theorem BPart.lt {rest n:Nat} {bs:List Nat} (h:BPart rest bs) (hr:rest<2^n) {b:Nat} (hb:b∈bs):b<2^n:=lt_iff.2 fun i hi=>lt_iff.1 hr i ((h.all i).2 ⟨b,hb,hi⟩)
theorem pass_nat {rest:Nat} (hr:rest<2^32):∀ {mv:List (Int×Int)},(∀ m∈mv,U32 m.1∧U32 m.2)→∀ {L:List Nat} (ag:Bool),BPart rest L →
  passI mv (lN L,ag)=some (lN (passB (mv.map fun m=>(sN m.1,sN m.2)) L),ag || decide (L.length<(passB (mv.map fun m=>(sN m.1,sN m.2)) L).length))
 | [],_,L,ag,_=>by simp [passI,passB]
 | m::mv,hm,L,ag,hp=>by
  have hlen:=hp.len hr
  have h1:=inner_nat (m:=m) (hm m (by simp)).1 (hm m (by simp)).2 L [] [] ag (fun b hb=>hp.lt hr hb) (by simp;omega)
  simp only [List.nil_append,List.append_nil,List.length_nil] at h1
  have h2:=pass_nat hr (fun m' h'=>hm m' (List.mem_cons_of_mem _ h')) (L:=splitAll (sN m.1,sN m.2) L) (ag || L.any (splits (sN m.1,sN m.2))) (hp.split _)
  simp only [passI,lN_len]
  rw [if_pos (by omega),h1]
  show passI mv (lN (splitAll (sN m.1,sN m.2) L),_)=_
  rw [h2]
  simp only [List.map_cons,passB,Option.some.injEq,Prod.mk.injEq,true_and]
  have h3:=splitAll_len (m:=(sN m.1,sN m.2)) (bs:=L)
  have h4:=passB_len (mv:=mv.map fun m=>(sN m.1,sN m.2)) (bs:=splitAll (sN m.1,sN m.2) L)
  rw [Bool.or_assoc]
  congr 1
  rw [Bool.eq_iff_iff,Bool.or_eq_true,decide_eq_true_eq,decide_eq_true_eq]
  constructor
  ·rintro (h | h)
   ·obtain ⟨b,hb,hs⟩:=List.any_eq_true.1 h
    have:0<(L.filter (splits (sN m.1,sN m.2))).length:=List.length_pos_of_mem (List.mem_filter.2 ⟨hb,hs⟩)
    omega
   ·omega
  ·intro h
   by_cases h0:(L.filter (splits (sN m.1,sN m.2))).length=0
   ·right;omega
   ·left
    obtain ⟨b,hb⟩:=List.exists_mem_of_length_pos (Nat.pos_of_ne_zero h0)
    obtain ⟨hb,hs⟩:=List.mem_filter.1 hb
    exact List.any_eq_true.2 ⟨b,hb,hs⟩
theorem rounds_nat {rest:Nat} (hr:rest<2^32) {mv:List (Int×Int)} (hm:∀ m∈mv,U32 m.1∧U32 m.2):∀ {k:Nat} {L:List Nat},BPart rest L→32<k+L.length→roundI mv k (lN L)=some (lN (roundsB (mv.map fun m=>(sN m.1,sN m.2)) k L))
 | 0,L,hp,hk=>absurd (hp.len hr) (by omega)
 | k+1,L,hp,hk=>by
  have h1:=passB_len (mv:=mv.map fun m=>(sN m.1,sN m.2)) (bs:=L)
  simp only [roundI,pass_nat hr hm false hp,roundsB,Bool.false_or,decide_eq_true_eq]
  by_cases he:(passB (mv.map fun m=>(sN m.1,sN m.2)) L).length=L.length
  ·rw [if_pos he,if_neg (by omega)]
  ·rw [if_neg he,if_pos (by omega)]
   exact rounds_nat hr hm hp.pass (by omega)
theorem startI_nat {n x:Nat} (hn:n≤16) (hx:x<2^32):startI (n:Int) (x:Int)=lN (startB (ndiff (2^n-1) x)):=by
 have h1:=pow_full hn
 have h2:2^n-1<2^32:=Nat.lt_of_lt_of_le (Nat.sub_lt (Nat.pow_pos (by omega)) (by omega)) (Nat.pow_le_pow_right (by omega) (by omega))
 have e:restI (n:Int) (x:Int)=((ndiff (2^n-1) x:Nat):Int):=by
  unfold restI
  rw [h1]
  exact bAndNot_nat (top32 h2) (top32 hx)
 unfold startI startB
 rw [e]
 by_cases h0:ndiff (2^n-1) x=0
 ·rw [if_pos h0,if_neg (by simp [h0])];rfl
 ·rw [if_neg h0,if_pos (by simp;omega)];rfl
theorem ret_hand {E:Env} {f:Nat} {p:List D→Option (D×List D)} {q:List D→Ask} {ds:List D} {r:D} {outs:List D} (h1:E.prim f=some p) (h2:p ds=none) (h3:E.hand f=some q) (h4:∃ N,∀ n,N≤n→runAsk (callN E n) (q ds)=some (r,outs)):Ret E f ds r outs:=by
 obtain ⟨N,hN⟩:=h4
 refine ⟨N+1,fun m hm=>?_⟩
 obtain ⟨k,rfl⟩:∃ k,m=k+1:=⟨m-1,by omega⟩
 simp only [callN,h1,h2,h3]
 exact hN k (by omega)
def blkB (mv:List (Nat×Nat)) (rest:Nat):List Nat:=roundsB mv 40 (startB rest)
theorem basis_blocks.spec {n x:Nat} {mv:List api_MVD} (hn:n≤16) (hx:x<2^32) (hm:MvdOK mv) (hlen:mv.length<1000000):basis_blocks.C n mv x (ordL (lN (blkB (mv.map mN) (ndiff (2^n-1) x)))):=by
 have h2:2^n-1<2^32:=Nat.lt_of_lt_of_le (Nat.sub_lt (Nat.pow_pos (by omega)) (by omega)) (Nat.pow_le_pow_right (by omega) (by omega))
 have hrest:ndiff (2^n-1) x<2^32:=Nat.lt_of_le_of_lt ndiff_le h2
 let mi:List (Int×Int):=mv.map fun d=>(d.Lhs,d.Rhs)
 have hmi:mi.map (fun m=>(sN m.1,sN m.2))=mv.map mN:=by simp only [mi,List.map_map];rfl
 have henc:mv.map enc_api_MVD=mi.map eMv:=by simp only [mi,List.map_map];rfl
 have hr:roundI mi 40 (startI n x)=some (lN (blkB (mv.map mN) (ndiff (2^n-1) x))):=by
  rw [startI_nat hn hx,rounds_nat hrest (by intro m hm';obtain ⟨d,hd,rfl⟩:=List.mem_map.1 hm';exact hm d hd) start_part (by omega),hmi]
  rfl
 have hp:BPart (ndiff (2^n-1) x) (blkB (mv.map mN) (ndiff (2^n-1) x)):=(rounds_ok hrest start_part (by omega)).1
 have hord:=attrset_Order.spec (l:=lN (blkB (mv.map mN) (ndiff (2^n-1) x))) (by have:=hp.len hrest;rw [lN_len];omega) (by
  intro y hy
  obtain ⟨b,hb,rfl⟩:=List.mem_map.1 hy
  exact U32.of (hp.lt hrest hb))
 obtain ⟨N,hN⟩:=hord
 refine ret_hand (p:=fun _=>none) (q:=handBlocks Blk.ordF) (by kernel_rfl) rfl (by kernel_rfl) ⟨N,fun m hm'=>?_⟩
 simp only [handBlocks,henc,decMv_enc]
 rw [if_pos ⟨by omega,by simp only [mi,List.length_map];exact hlen⟩,hr]
 simp only [runAsk]
 have:callN env m Blk.ordF [.sl ((lN (blkB (mv.map mN) (ndiff (2^n-1) x))).map (eI .u32))]=some (.sl ((ordL (lN (blkB (mv.map mN) (ndiff (2^n-1) x)))).map (eI .u32)),[]):=hN m hm'
 rw [this]
 rfl
def fdMvI (d:api_FD):List api_MVD:=(bitsOf (sN d.Rhs)).map fun (a:Nat)=>⟨d.Lhs,((2^a:Nat):Int)⟩
def allI (fds:List api_FD) (mvds:List api_MVD):List api_MVD:=mvds++fds.flatMap fdMvI
theorem fdMvI_len {d:api_FD}:(fdMvI d).length≤32:=by unfold fdMvI;rw [List.length_map];exact bitsOf_len
theorem basis_all.spec {fds:List api_FD} {mvds:List api_MVD} (hf:FdOK fds) (h1:fds.length≤64) (h2:mvds.length≤64):basis_all.C fds mvds (allI fds mvds):=by
 obtain ⟨r,e1,e2⟩:=basis_all.enter fds mvds (fun r=>r=allI fds mvds) (by
  refine ⟨by omega,?_⟩
  have go:∀ (l:List api_FD) (i:Nat) (acc:List api_MVD),fds.drop i=l→acc.length≤64+32*i→acc++l.flatMap fdMvI=allI fds mvds→basis_all.L1 fds acc (i:Int) (fun r=>r=allI fds mvds):=by
   intro l
   induction l with
   | nil=>
    intro i acc hd hl h
    have:=drop_ge hd
    apply basis_all.L1_step
    rw [if_neg (by omega)]
    simpa using h
   | cons d l ih=>
    intro i acc hd hl h
    have hlt:=drop_lt hd
    have hdm:=hf d (List.mem_of_getElem? (drop_get hd))
    apply basis_all.L1_step
    rw [if_pos (by omega)]
    have hmem:=attrset_Members.spec hdm.2.lt
    rw [← hdm.2.eq] at hmem
    refine ⟨d,lget_drop hd,_,hmem,?_⟩
    have hbl:=bitsOf_len (n:=sN d.Rhs)
    have inner:∀ (t:List Nat) (k:Nat) (acc:List api_MVD),(bitsOf (sN d.Rhs)).drop k=t→k≤(bitsOf (sN d.Rhs)).length→acc.length≤64+32*i+k→acc++(t.map fun (a:Nat)=>(⟨d.Lhs,((2^a:Nat):Int)⟩:api_MVD))++l.flatMap fdMvI=allI fds mvds→basis_all.L2 fds acc d (i:Int) ((bitsOf (sN d.Rhs)).map fun (i:Nat)=>(i:Int)) (k:Int) (fun r=>r=allI fds mvds):=by
     intro t
     induction t with
     | nil=>
      intro k acc hk hkl hl2 h2
      have:=drop_ge hk
      apply basis_all.L2_step
      rw [if_neg (by simp;omega),wrap_succ (by omega)]
      exact ih (i+1) acc (drop_next hd) (by omega) (by simpa using h2)
     | cons a t ih2=>
      intro k acc hk hkl hl2 h2
      have hklt:=drop_lt hk
      have ha:=drop_get hk
      have ha32:a<32:=lt_iff.1 hdm.2.lt a ((bitsOf_mem hdm.2.lt).1 (List.mem_of_getElem? ha))
      apply basis_all.L2_step
      rw [if_pos (by simp;omega)]
      refine ⟨(a:Int),lget_of (by simp [ha]),by omega,by omega,?_⟩
      rw [wrap_succ (by omega),shl1_nat (k:=.u32) (by simpa [top] using ha32)]
      exact ih2 (k+1) _ (drop_next hk) (by omega) (by simp;omega) (by simpa using h2)
    exact inner (bitsOf (sN d.Rhs)) 0 acc rfl (by omega) (by omega) (by
     rw [List.append_assoc]
     simpa [fdMvI] using h)
  exact go fds 0 mvds rfl (by omega) rfl)
 rw [← e1];exact e2
theorem allI_nat {fds:List api_FD} {mvds:List api_MVD} (hf:FdOK fds):(allI fds mvds).map mN=allMv (fds.map fN) (mvds.map mN):=by
 unfold allI allMv
 rw [List.map_append,List.map_flatMap,List.flatMap_map]
 congr 1
 refine flatMap_congr' fun d hd=>?_
 unfold fdMvI fdMv
 rw [List.map_map]
 refine List.map_congr_left fun a ha=>?_
 show (sN d.Lhs,sN ((2^a:Nat):Int))=_
 rw [sN_nat];rfl
theorem allI_ok {fds:List api_FD} {mvds:List api_MVD} (hf:FdOK fds) (hm:MvdOK mvds):MvdOK (allI fds mvds):=by
 intro d hd
 rcases List.mem_append.1 hd with hd | hd
 ·exact hm d hd
 ·obtain ⟨f,hfm,hd⟩:=List.mem_flatMap.1 hd
  obtain ⟨a,ha,rfl⟩:=List.mem_map.1 hd
  have hR:=(hf f hfm).2.lt
  have ha32:a<32:=lt_iff.1 hR a ((bitsOf_mem hR).1 ha)
  exact ⟨(hf f hfm).1,U32.of (Nat.pow_lt_pow_right (by omega) ha32)⟩
theorem allI_len {fds:List api_FD} {mvds:List api_MVD} (h1:fds.length≤64) (h2:mvds.length≤64):(allI fds mvds).length<1000000:=by
 have:(fds.flatMap fdMvI).length≤fds.length*32:=by
  clear h1
  induction fds with
  | nil=>simp
  | cons d l ih=>
   have:=fdMvI_len (d:=d)
   simp only [List.flatMap_cons,List.length_append,List.length_cons]
   omega
 unfold allI
 rw [List.length_append];omega
theorem basis_blocks.all {n x:Nat} {fds:List api_FD} {mvds:List api_MVD} (hn:n≤16) (hx:x<2^32) (hf:FdOK fds) (hm:MvdOK mvds) (h1:fds.length≤64) (h2:mvds.length≤64):basis_blocks.C n (allI fds mvds) x (ordL (lN (finB (fds.map fN) (mvds.map mN) (ndiff (2^n-1) x)))):=by
 have:=basis_blocks.spec hn hx (allI_ok hf hm) (allI_len h1 h2)
 rw [allI_nat hf] at this
 exact this
end Go.Own
