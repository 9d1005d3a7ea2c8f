/- What the functions that the law reaches answer. No conditions. -/
import Derived.Test.YtbemcminbfhakaaDoorRefuteTwoLaw8
import Derived.Test.YtbemcminbfhakaaDoorRefuteTwoLaw10
import Derived.Test.YtbemcminbfhakaaDoorBase1
import Derived.Test.YtbemcminbfhakaaDoorOwn25
import Derived.Test.YtbemcminbfhakaaDoorRefuteTwoLaw5
import Derived.Test.YtbemcminbfhakaaDoorRefuteTwoLaw9
set_option linter.all false
namespace Go.Own
end Go.Own
namespace Go.Own
end Go.Own
namespace Go.Own
theorem pow16 {n:Nat} (hn:n≤16):2^n≤65536∧0<2^n:=⟨Nat.pow_le_pow_right (n:=2) (by omega) hn,Nat.pow_pos (by omega)⟩
end Go.Own
namespace Go.Own
theorem passN_cons (d:api_FD) (l:List api_FD) (s:Nat):passN (d::l) s=passN l (if sN d.Lhs &&& s=sN d.Lhs then s ||| sN d.Rhs else s):=rfl
theorem andNot_zero {a:Int} {s:Nat} (ha:U32 a) (hs:s<2^32):bAndNot .u32 a s=0↔sN a &&& s=sN a:=by
 have e:bAndNot .u32 a s=((ndiff (sN a) s:Nat):Int):=by
  conv=>lhs;rw [ha.eq]
  exact bAndNot_nat ha.top (by simpa [top] using hs)
 rw [e,sub_iff,← ndiff_zero];omega
theorem or_nat {a:Int} {s:Nat} (ha:U32 a) (hs:s<2^32):bOr .u32 s a=((s ||| sN a:Nat):Int):=by
 conv=>lhs;rw [ha.eq]
 exact bOr_nat (by simpa [top] using hs) ha.top
namespace closure_Close
theorem pass {l:List api_FD} (hl:FdOK l) (hn:l.length<1000000000) {b:Int} {φ:Int→Prop}:∀ (r:List api_FD) (k s:Nat),l.drop k=r→s<2^32→(if ((passN r s:Nat):Int)=b then φ ((passN r s:Nat):Int) else L1 l ((passN r s:Nat):Int) φ)→L2 l s b k φ:=by
 intro r
 induction r with
 | nil=>
  intro k s hd hs h
  have:=drop_ge hd
  apply L2_step
  rw [if_neg (by omega)]
  exact h
 | cons d r ih=>
  intro k s hd hs h
  have hlt:=drop_lt hd
  have hd':=hl d (List.mem_of_getElem? (drop_get hd))
  apply L2_step
  rw [if_pos (by omega)]
  refine ⟨d,lget_drop hd,?_⟩
  rw [passN_cons] at h
  by_cases hz:sN d.Lhs &&& s=sN d.Lhs
  ·rw [if_pos ((andNot_zero hd'.1 hs).2 hz),or_nat hd'.2 hs]
   rw [if_pos hz] at h
   apply L3_step
   rw [wrap_succ (by omega)]
   exact ih (k+1) _ (drop_next hd) (Nat.or_lt_two_pow hs hd'.2.lt) h
  ·rw [if_neg (fun hh=>hz ((andNot_zero hd'.1 hs).1 hh))]
   rw [if_neg hz] at h
   apply L3_step
   rw [wrap_succ (by omega)]
   exact ih (k+1) s (drop_next hd) hs h
theorem loop {l:List api_FD} (hl:FdOK l) (hn:l.length<1000000000) {φ:Int→Prop}:∀ (k s:Nat),s<2^32→33≤k+szN s→φ ((passK l k s:Nat):Int)→L1 l s φ
 | 0,s,hs,hk,h=>by have:=bitsOf_len (n:=s);unfold szN at hk;omega
 | k+1,s,hs,hk,h=>by
  have hr:∀ d∈l,sN d.Rhs<2^32:=fun d hd=>(hl d hd).2.lt
  apply L1_step
  refine pass hl hn l 0 s rfl hs ?_
  rw [passK] at h
  by_cases hz:passN l s=s
  ·rw [if_pos (by rw [hz]),hz]
   rw [hz,passK_fix hz] at h
   exact h
  ·rw [if_neg (by omega)]
   have:=szN_lt (passN_up (l:=l)) (Ne.symm hz) (passN_lt hs hr)
   exact loop hl hn k _ (passN_lt hs hr) (by omega) h
theorem spec {l:List api_FD} (hl:FdOK l) (hn:l.length<1000000000) {s:Nat} (hs:s<2^32):C l s ((cloN l s:Nat):Int):=by
 obtain ⟨r,h1,h2⟩:=enter l s (fun r=>r=((cloN l s:Nat):Int)) (loop hl hn 33 s hs (by omega) rfl)
 rw [← h1];exact h2
end closure_Close
namespace drossref09_Close
end drossref09_Close
theorem pow_full {n:Nat} (hn:n≤16):IntKind.wrap .u32 (shlw .u32 1 (n:Int)-1)=((2^n-1:Nat):Int):=by
 have hp:=pow16 hn
 have e:shlw .u32 1 (n:Int)=((2^n:Nat):Int):=shl1_nat (k:=.u32) (by simp only [top];omega)
 rw [e,show (((2^n:Nat):Int)-1)=((2^n-1:Nat):Int) by omega]
 exact wrap_top (k:=.u32) (by simp only [top];omega)
theorem full_small {n:Nat} (hn:n≤16):fullN n=2^n-1:=by unfold fullN;rw [Nat.min_eq_left (by omega)]
end Go.Own
namespace Go.Own
def errA (n:Int) (l:List api_FD):Int:=if fdsE n l=0 then (if 10<n then 3 else 0) else fdsE n l
theorem errA_n {n:Int} {l:List api_FD} (h:errA n l=0):0≤n∧n≤10∧fdsE n l=0:=by
 unfold errA at h
 split at h
 ·rename_i h0
  have:=fdsE_n h0
  split at h
  ·cases h
  ·exact ⟨by omega,by omega,h0⟩
 ·rename_i h0;exact absurd h h0
theorem full_spec {n:Nat} (hn:n≤16):drossref02_Full.C n ((2^n-1:Nat):Int):=by
 rw [← full_small hn];exact drossref02_Full.spec
end Go.Own
namespace Go.Own
theorem pow_bit {n i:Nat}:(2^n-1).testBit i=decide (i<n):=Nat.testBit_two_pow_sub_one n i
def FdIn (n:Nat) (l:List api_FD):Prop:=∀ d∈l,sN d.Lhs<2^n∧sN d.Rhs<2^n
theorem fdsE_in {n:Int} {l:List api_FD} (h:fdsE n l=0):FdIn n.toNat l:=by
 unfold fdsE at h
 split at h
 ·cases h
 ·split at h
  ·cases h
  ·split at h
   ·rename_i ha
    intro d hd
    have:=List.all_eq_true.1 ha d hd
    unfold inU at this
    simp only [Bool.and_eq_true,decide_eq_true_eq] at this
    exact this
   ·cases h
end Go.Own
namespace Go.Own
def agrN (t:api_Table) (n i k:Nat):Nat:=ofBits (fun a=>decide (EqA t i k a)) n
theorem agrN_bit {t:api_Table} {n i k a:Nat}:(agrN t n i k).testBit a=true↔a<n∧EqA t i k a:=by
 unfold agrN
 rw [ofBits_bit,Bool.and_eq_true,decide_eq_true_iff,decide_eq_true_iff]
end Go.Own
namespace Go.Own
def impB (l:List api_FD) (a b:Int):Bool:=decide (sN b &&& cloN l (sN a)=sN b)
theorem impB_iff {l:List api_FD} {a b:Int}:impB l a b=true↔subN (sN b) (cloN l (sN a)):=by
 unfold impB;rw [decide_eq_true_iff,sub_iff];exact Iff.rfl
theorem shl_bit {a:Nat} (ha:a<32):shlw .u32 1 (a:Int)=((2^a:Nat):Int):=shl1_nat (k:=.u32) (by simpa only [top] using ha)
end Go.Own
namespace Go.Own
def abcK:List ByteArray:=[⟨#[97]⟩,⟨#[98]⟩,⟨#[99]⟩,⟨#[100]⟩,⟨#[101]⟩,⟨#[102]⟩,⟨#[103]⟩,⟨#[104]⟩,⟨#[105]⟩,⟨#[106]⟩,⟨#[107]⟩,⟨#[108]⟩,⟨#[109]⟩,⟨#[110]⟩,⟨#[111]⟩,⟨#[112]⟩]
theorem abcK_enc:∀ i:Fin 16,Utf8.encode (IntKind.wrap .i32 (IntKind.wrap .i64 (97+(i.val:Int))))=(abcK[i.val]?).getD ⟨#[]⟩:=by decide +kernel
theorem abcK_take {k:Nat} (h:k<16):abcK.take (k+1)=abcK.take k++[(abcK[k]?).getD ⟨#[]⟩]:=by
 have hl:abcK.length=16:=rfl
 rw [List.take_add_one,List.getElem?_eq_getElem (by omega)];rfl
theorem abcK_len {n:Nat} (hn:n≤16):(abcK.take n).length=n:=by
 have hl:abcK.length=16:=rfl
 rw [List.length_take];omega
def bitV (b:Bool):api_Value:=⟨1,if b=true then 1 else 0,⟨#[]⟩⟩
def rowV (n m:Nat):List api_Value:=(List.range n).map fun i=>bitV (m.testBit i)
theorem rowV_len {n m:Nat}:(rowV n m).length=n:=by simp [rowV]
theorem rowV_succ {n m:Nat}:rowV (n+1) m=rowV n m++[bitV (m.testBit n)]:=by
 unfold rowV;rw [List.range_succ,List.map_append];rfl
theorem rowV_get {n m a:Nat} (ha:a<n):(rowV n m)[a]? = some (bitV (m.testBit a)):=by
 unfold rowV;rw [List.getElem?_map,List.getElem?_range ha];rfl
def fdT (n m:Nat):api_Table:=⟨⟨#[116]⟩,abcK.take n,[⟨1,rowV n 0⟩,⟨2,rowV n m⟩]⟩
def noT20:api_Table:=⟨⟨#[]⟩,[],[]⟩
namespace refute_build
theorem cells {n:Nat} {xs:List Int} {ats:List ByteArray} {rows:List api_Row} {m k:Nat} {id:Int} {φ:api_Table→Prop} (hn:n≤16) (hm:m<2^32) (hr:rows.length≤2000) (hk:k≤2000)
  (h:L2 n xs ats (rows++[⟨id,rowV n m⟩]) ((k+1:Nat):Int) φ):∀ (d i:Nat),d+i=n→L3 n xs ats rows (m:Int) id (rowV i m) k i φ
 | 0,i,hd=>by
  have:i=n:=by omega
  subst this
  apply L3_step
  rw [if_neg (by omega),wrap_succ (by omega)]
  exact ⟨by omega,h⟩
 | d+1,i,hd=>by
  have next:=cells hn hm hr hk h d (i+1) (by omega)
  rw [rowV_succ] at next
  apply L3_step
  rw [if_pos (by omega),wrap_succ (by omega)]
  refine ⟨by omega,by rw [rowV_len];omega,?_⟩
  have e:IntKind.wrap .i64 (bAnd .u32 (shrw .u32 (m:Int) (i:Int)) 1)=if m.testBit i=true then 1 else 0:=by
   rw [bit_nat (k:=.u32) (by simpa [top] using hm) (by decide)]
   split<;>decide
  rw [e]
  exact next
theorem spec {n m:Nat} (hn:n≤16) (hm:m<2^32):C n [0,(m:Int)] (fdT n m):=by
 obtain ⟨r,h1,h2⟩:=enter n [0,(m:Int)] (fun r=>r=fdT n m) (by
  have rows:L2 n [0,(m:Int)] (abcK.take n) [] 0 (fun r=>r=fdT n m):=by
   apply L2_step
   rw [if_pos (by simp)]
   refine ⟨0,rfl,?_⟩
   have w0:IntKind.wrap .i64 ((0:Int)+1)=1:=by decide
   rw [w0]
   refine cells (m:=0) (k:=0) (rows:=[]) hn (by omega) (by simp) (by omega) ?_ n 0 (by omega)
   apply L2_step
   rw [if_pos (by simp)]
   refine ⟨(m:Int),rfl,?_⟩
   have w1:IntKind.wrap .i64 (((0+1:Nat):Int)+1)=2:=by decide
   rw [w1]
   refine cells (m:=m) (k:=1) (rows:=[⟨1,rowV n 0⟩]) hn hm (by simp) (by omega) ?_ n 0 (by omega)
   apply L2_step
   rw [if_neg (by simp)]
   rfl
  have:∀ (d i:Nat),d+i=n→L1 n [0,(m:Int)] (abcK.take i) i (fun r=>r=fdT n m):=by
   intro d
   induction d with
   | zero=>
    intro i hd
    have:i=n:=by omega
    subst this
    apply L1_step
    rw [if_neg (by omega)]
    exact rows
   | succ d ih=>
    intro i hd
    have next:=ih (i+1) (by omega)
    rw [abcK_take (by omega),← abcK_enc ⟨i,by omega⟩] at next
    apply L1_step
    rw [if_pos (by omega),wrap_succ (by omega)]
    exact ⟨by rw [abcK_len (by omega)];omega,next⟩
  exact this n 0 rfl)
 rw [← h1];exact h2
end refute_build
theorem refute_within.spec {n:Nat} {l r:Int} (hl:U32 l) (hr:U32 r):refute_within.C n (bOr .u32 l r) (inU n l r):=by
 obtain ⟨q,h1,h2⟩:=refute_within.enter n (bOr .u32 l r) (fun q=>q=inU n l r) ⟨by omega,by
  have e0:bOr .u32 l r=((sN l ||| sN r:Nat):Int):=by
   conv=>lhs;rw [hl.eq,hr.eq]
   exact bOr_nat hl.top hr.top
  have hlt:sN l ||| sN r<2^32:=Nat.or_lt_two_pow hl.lt hr.lt
  rw [e0]
  have e1:IntKind.wrap .u64 ((sN l ||| sN r:Nat):Int)=((sN l ||| sN r:Nat):Int):=by
   unfold IntKind.wrap;simp only [IntKind.bits,IntKind.signed,Bool.false_and,Bool.false_eq_true,if_false];omega
  rw [e1,shrw_nat (k:=.u64) (Nat.lt_trans hlt (by decide))]
  refine Bool.eq_iff_iff.2 ?_
  rw [beq_iff_eq]
  unfold inU
  rw [Bool.and_eq_true,decide_eq_true_iff,decide_eq_true_iff,← or_lt,← div_zero]
  omega⟩
 rw [← h1];exact h2
theorem closure_Implies.spec {l:List api_FD} (hl:FdOK l) (hn:l.length<1000000000) {d:api_FD} (ha:U32 d.Lhs) (hb:U32 d.Rhs):closure_Implies.C l d (impB l d.Lhs d.Rhs):=by
 have hc:=closure_Close.spec hl hn ha.lt
 rw [← ha.eq] at hc
 have hcl:cloN l (sN d.Lhs)<2^32:=cloN_lt (fun d hd=>(hl d hd).2.lt) ha.lt
 obtain ⟨r,h1,h2⟩:=closure_Implies.enter l d (fun r=>r=impB l d.Lhs d.Rhs) ⟨_,hc,by
  refine Bool.eq_iff_iff.2 ?_
  rw [beq_iff_eq,andNot_zero hb hcl]
  unfold impB;rw [decide_eq_true_iff]⟩
 rw [← h1];exact h2
def lackN (n:Nat) (l:List api_FD) (s:Nat):Nat:=ndiff (2^n-1) (cloN l s)
def errR (n:Int) (l:List api_FD) (g:api_FD):Int:=if fdsE n l=0 then (if inU n.toNat g.Lhs g.Rhs=true then (if impB l g.Lhs g.Rhs=true then 10 else 0) else 1) else fdsE n l
def refF (n:Int) (l:List api_FD) (g:api_FD):api_Table×Int:=if errR n l g=0 then (fdT n.toNat (lackN n.toNat l (sN g.Lhs)),0) else (noT20,errR n l g)
theorem refute_FD.spec {n:Int} {l:List api_FD} {g:api_FD} (hl:FdOK l) (hlen:l.length<1000000000) (ha:U32 g.Lhs) (hb:U32 g.Rhs):refute_FD.C n l g (refF n l g):=by
 obtain ⟨r,h1,h2⟩:=refute_FD.enter n l g (fun r=>r=refF n l g) (by
  refine ⟨_,closure_Valid.spec hl,?_⟩
  by_cases h0:fdsE n l=0
  ·rw [if_pos h0]
   have hn:=fdsE_n h0
   obtain ⟨m,rfl⟩:∃ m:Nat,n=m:=⟨n.toNat,by omega⟩
   refine ⟨_,refute_within.spec ha hb,?_⟩
   by_cases h1:inU m g.Lhs g.Rhs=true
   ·rw [if_pos h1]
    refine ⟨_,closure_Implies.spec hl hlen ha hb,?_⟩
    have hcl:cloN l (sN g.Lhs)<2^32:=cloN_lt (fun d hd=>(hl d hd).2.lt) ha.lt
    have hc:=closure_Close.spec hl hlen ha.lt
    rw [← ha.eq] at hc
    by_cases h2:impB l g.Lhs g.Rhs=true
    ·rw [if_pos h2]
     have e:errR (m:Int) l g=10:=by unfold errR;rw [if_pos h0,Int.toNat_natCast,if_pos h1,if_pos h2]
     unfold refF;rw [e];rfl
    ·rw [if_neg h2]
     have e:errR (m:Int) l g=0:=by unfold errR;rw [if_pos h0,Int.toNat_natCast,if_pos h1,if_neg h2]
     have hp:=pow16 (n:=m) (by omega)
     refine ⟨by omega,_,hc,?_⟩
     rw [pow_full (by omega),bAndNot_nat (k:=.u32) (by simp only [top];omega) (by simpa [top] using hcl)]
     refine ⟨_,refute_build.spec (by omega) (Nat.lt_of_le_of_lt ndiff_le (by omega)),?_⟩
     unfold refF;rw [e,if_pos rfl,Int.toNat_natCast];rfl
   ·rw [if_neg h1]
    have e:errR (m:Int) l g=1:=by unfold errR;rw [if_pos h0,Int.toNat_natCast,if_neg h1]
    unfold refF;rw [e];rfl
  ·rw [if_neg h0]
   have e:errR n l g=fdsE n l:=by unfold errR;rw [if_neg h0]
   unfold refF;rw [e,if_neg h0];rfl)
 rw [← h1];exact h2
namespace drossref20_FD
end drossref20_FD
end Go.Own
namespace Go.Own
theorem name20 {b:UInt8} (h:(letB (u8i b)&&true)=true):nameF ⟨#[b]⟩=true:=by
 unfold nameF
 have e:(⟨#[b]⟩:ByteArray).toList=[b]:=bl_mk (l:=[b])
 rw [e]
 simp only [nameL,List.length_nil,List.all_nil,Bool.and_true] at h ⊢
 rw [h]
 have:decide ([b]=nullB)=false:=decide_eq_false (by unfold nullB;simp)
 rw [this];rfl
theorem names20:∀ (r pre:List ByteArray),(∀ x∈r,nameF x=true)→(pre++r).Nodup→namesGo pre r=true
 | [],_,_,_=>rfl
 | a::r,pre,hn,hd=>by
  rw [namesGo,hn a (by simp),names20 r (pre++[a]) (fun x hx=>hn x (by simp [hx])) (by rw [List.append_assoc];exact hd)]
  have:pre.any (eqS a)=false:=by
   rw [List.any_eq_false]
   intro x hx
   unfold eqS
   rw [decide_eq_true_iff]
   intro he
   subst he
   rw [List.nodup_append] at hd
   exact hd.2.2 x hx x (by simp) rfl
  rw [this];rfl
theorem abcK_names {m:Nat}:namesF (abcK.take m)=true:=by
 unfold namesF
 refine names20 _ [] (fun x hx=>?_) ?_
 ·have hx:=List.mem_of_mem_take hx
  unfold abcK at hx
  simp only [List.mem_cons,List.not_mem_nil,or_false] at hx
  rcases hx with rfl | rfl | rfl | rfl | rfl | rfl | rfl | rfl | rfl | rfl | rfl | rfl | rfl | rfl | rfl | rfl<;>exact name20 (by decide)
 ·rw [List.nil_append]
  have:abcK.Nodup:=by decide +kernel
  exact this.sublist (List.take_sublist _ _)
theorem rowV_valid {n m:Nat}:validsF (rowV n m)=true:=by
 unfold validsF
 rw [List.all_eq_true]
 intro v hv
 obtain ⟨i,_,rfl⟩:=List.mem_map.1 hv
 unfold validV
 rw [decide_eq_true_iff]
 exact .inr (.inl ⟨rfl,bl_nil⟩)
theorem fdT_TV {n m:Nat} (hn:n≤16):TV (fdT n m) where
 name:=name20 (by decide)
 na:=by show (abcK.take n).length≤16;rw [abcK_len hn];exact hn
 nr:=by show 2≤1000;omega
 names:=abcK_names
 rows:=by
  show rowsF (abcK.take n).length 0 [⟨1,rowV n 0⟩,⟨2,rowV n m⟩]=0
  rw [abcK_len hn,rowsF,if_neg (by show ¬ (1:Int)≤0;omega),if_pos rowV_len,if_pos rowV_valid,rowsF,if_neg (by show ¬ (2:Int)≤1;omega),if_pos rowV_len,if_pos rowV_valid,rowsF]
theorem fdT_eqA {n m a:Nat} (ha:a<n):EqA (fdT n m) 1 0 a↔m.testBit a=false:=by
 unfold EqA fdT
 show some ((rowV n m)[a]?)=some ((rowV n 0)[a]?)↔_
 rw [rowV_get ha,rowV_get ha,Nat.zero_testBit]
 cases m.testBit a<;>simp [bitV]
theorem fdT_sat {n m l r:Nat} (hn:n≤16) (hl:l<2^n) (hr:r<2^n):SatP (fdT n m) l r↔((∀ a,l.testBit a=true→m.testBit a=false)→∀ a,r.testBit a=true→m.testBit a=false):=by
 have hp:=pow16 hn
 rw [sat_iff (fdT_TV hn) (by omega) (by omega)]
 constructor
 ·intro h hl' a ha
  exact (fdT_eqA (lt_iff.1 hr a ha)).1 (h 1 0 (by show 1<2;omega) (by omega) (fun b hb=>(fdT_eqA (lt_iff.1 hl b hb)).2 (hl' b hb)) a ha)
 ·intro h i k hi hk e a ha
  have hi:i<2:=hi
  obtain rfl:i=1:=by omega
  obtain rfl:k=0:=by omega
  exact (fdT_eqA (lt_iff.1 hr a ha)).2 (h (fun b hb=>(fdT_eqA (lt_iff.1 hl b hb)).1 (e b hb)) a ha)
theorem lack_bit {n:Nat} {l:List api_FD} {s a:Nat} (ha:a<n):(lackN n l s).testBit a=false↔(cloN l s).testBit a=true:=by
 unfold lackN
 rw [ndiff_bit,pow_bit,decide_eq_true ha,Bool.true_and]
 cases (cloN l s).testBit a<;>simp
theorem lack_sat {n:Nat} {l:List api_FD} {s x y:Nat} (hn:n≤16) (hx:x<2^n) (hy:y<2^n):SatP (fdT n (lackN n l s)) x y↔(subN x (cloN l s)→subN y (cloN l s)):=by
 rw [fdT_sat hn hx hy]
 constructor
 ·intro h hs a ha
  exact (lack_bit (lt_iff.1 hy a ha)).1 (h (fun b hb=>(lack_bit (lt_iff.1 hx b hb)).2 (hs b hb)) a ha)
 ·intro h hs a ha
  exact (lack_bit (lt_iff.1 hy a ha)).2 (h (fun b hb=>(lack_bit (lt_iff.1 hx b hb)).1 (hs b hb)) a ha)
def RightP (t:api_Table) (l:List api_FD):Prop:=∀ d∈l,SatP t (sN d.Lhs) (sN d.Rhs)
open Classical in
noncomputable def rightB (t:api_Table) (l:List api_FD):Bool:=decide (RightP t l)
theorem rightB_iff {t:api_Table} {l:List api_FD}:rightB t l=true↔RightP t l:=by unfold rightB;exact @decide_eq_true_iff _ (Classical.propDecidable _)
theorem drossref08_sat {t:api_Table} (ht:TV t) {d:api_FD} (hl:U32 d.Lhs) (hr:U32 d.Rhs):∃ b,drossref08_Satisfies.C t d b∧(b=true↔SatP t (sN d.Lhs) (sN d.Rhs)):=
 drossref08_Satisfies.spec ht hl.eq hr.eq hl.lt hr.lt
namespace drossref20_Right
theorem loop {t:api_Table} (ht:TV t) {l:List api_FD} (hl:FdOK l) (hlen:l.length<1000000000) {φ:Bool→Prop}:∀ (r:List api_FD) (k:Nat),l.drop k=r→(¬ RightP t r→φ false)→(RightP t r→φ true)→L1 t l [] k φ
 | [],k,hd,_,h2=>by
  have:=drop_ge hd
  apply L1_step
  rw [if_neg (by omega)]
  apply L2_step
  rw [if_neg (by simp)]
  exact h2 (fun d hd=>by cases hd)
 | d::r,k,hd,h1,h2=>by
  have hlt:=drop_lt hd
  have hm:=List.mem_of_getElem? (drop_get hd)
  obtain ⟨b,hb,hi⟩:=drossref08_sat ht (hl d hm).1 (hl d hm).2
  apply L1_step
  rw [if_pos (by omega),wrap_succ (by omega)]
  refine ⟨d,lget_drop hd,b,hb,?_⟩
  by_cases hs:b=true
  ·rw [if_pos hs]
   refine loop ht hl hlen r (k+1) (drop_next hd) (fun hn=>h1 fun h=>hn fun x hx=>h x (by simp [hx])) fun hy=>h2 fun x hx=>?_
   rcases List.mem_cons.1 hx with rfl | hx
   ·exact hi.1 hs
   ·exact hy x hx
  ·rw [if_neg hs]
   exact h1 fun h=>hs (hi.2 (h d (by simp)))
theorem spec {t:api_Table} (ht:TV t) {l:List api_FD} (hl:FdOK l) (hlen:l.length<1000000000):C t l [] (rightB t l):=by
 obtain ⟨r,h1,h2⟩:=enter t l [] (fun r=>r=rightB t l) (by
  refine loop ht hl hlen l 0 rfl (fun hn=>?_) fun hy=>(rightB_iff.2 hy).symm
  cases hb:rightB t l with
  | false=>rfl
  | true=>exact absurd (rightB_iff.1 hb) hn)
 rw [← h1];exact h2
end drossref20_Right
theorem lack_right {n:Nat} {l:List api_FD} {s:Nat} (hn:n≤16) (hf:FdIn n l) (hs:s<2^n):RightP (fdT n (lackN n l s)) l:=fun d hd=>by
 obtain ⟨d1,d2⟩:=hf d hd
 have hp:=pow16 hn
 rw [lack_sat hn d1 d2]
 exact fun h=>cloN_clo (fun d hd=>Nat.lt_trans (hf d hd).2 (by omega)) (by omega) d hd h
theorem lack_goal {n:Nat} {l:List api_FD} {s r:Nat} (hn:n≤16) (hs:s<2^n) (hr:r<2^n) (hno:¬ subN r (cloN l s)):¬ SatP (fdT n (lackN n l s)) s r:=fun h=>by
 rw [lack_sat hn hs hr] at h
 exact hno (h cloN_up)
theorem right_sat {t:api_Table} (ht:TV t) {n:Nat} {l:List api_FD} {s r:Nat} (hn:n≤16) (hf:FdIn n l) (h:RightP t l) (hs:s<2^n) (hr:r<2^n) (hi:subN r (cloN l s)):SatP t s r:=by
 have hp:=pow16 hn
 rw [sat_iff ht (by omega) (by omega)]
 intro i k hik hk e a ha
 have hc:IsClo l (agrN t n i k):=fun d hd hle b hb=>by
  obtain ⟨d1,d2⟩:=hf d hd
  have:=h d hd
  rw [sat_iff ht (by omega) (by omega)] at this
  exact agrN_bit.2 ⟨lt_iff.1 d2 b hb,this i k hik hk (fun c hc=>(agrN_bit.1 (hle c hc)).2) b hb⟩
 have hsub:subN s (agrN t n i k):=fun b hb=>agrN_bit.2 ⟨lt_iff.1 hs b hb,e b hb⟩
 exact (agrN_bit.1 (cloN_min hsub hc a (hi a ha))).2
theorem refF_err {n:Int} {l:List api_FD} {g:api_FD}:(refF n l g).2=errR n l g:=by
 unfold refF
 split
 ·rename_i h;exact h.symm
 ·rfl
end Go.Own
