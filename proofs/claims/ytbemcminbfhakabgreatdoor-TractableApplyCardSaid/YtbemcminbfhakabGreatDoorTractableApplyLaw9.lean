/- What the functions that the law reaches answer. No conditions. -/
import Derived.Test.YtbemcminbfhakabGreatDoorTractableApplyLaw2
import Derived.Test.YtbemcminbfhakabGreatDoorTractableApplyLaw4
import Derived.Test.YtbemcminbfhakabGreatDoorTractableApplyLaw6
import Derived.Test.YtbemcminbfhakabGreatDoorBase2
import Derived.Test.YtbemcminbfhakabGreatDoorOwn25
set_option linter.all false
namespace Go.Own
theorem drossref02_Sub.spec {a b:Nat} (ha:a<2^32) (hb:b<2^32):drossref02_Sub.C a b (decide (a &&& b=a)):=by
 obtain ⟨r,h1,h2⟩:=drossref02_Sub.enter a b (fun r=>r=decide (a &&& b=a)) (by
  rw [bAnd_nat (k:=.u32) (by simpa [top] using ha) (by simpa [top] using hb)]
  by_cases h:a &&& b=a
  ·simp [h]
  ·have:¬ ((a &&& b:Nat):Int)=(a:Int):=by omega
   simp [h,this])
 rw [← h1];exact h2
end Go.Own
namespace Go.Own
namespace drossref02_Full
end drossref02_Full
end Go.Own
namespace Go.Own
def FdOK (l:List api_FD):Prop:=∀ d∈l,U32 d.Lhs∧U32 d.Rhs
end Go.Own
namespace Go.Own
def passN:List api_FD→Nat→Nat
 | [],s=>s
 | d::l,s=>passN l (if sN d.Lhs &&& s=sN d.Lhs then s ||| sN d.Rhs else s)
def passK (l:List api_FD):Nat→Nat→Nat
 | 0,s=>s
 | k+1,s=>passK l k (passN l s)
def cloN (l:List api_FD) (s:Nat):Nat:=passK l 33 s
def subN (a b:Nat):Prop:=∀ i,a.testBit i=true→b.testBit i=true
theorem subN_refl (a:Nat):subN a a:=fun _ h=>h
theorem subN_trans {a b c:Nat} (h:subN a b) (k:subN b c):subN a c:=fun i hi=>k i (h i hi)
theorem subN_or {a b:Nat}:subN a (a ||| b):=fun i hi=>by rw [Nat.testBit_or,hi];rfl
theorem subN_anti {a b:Nat} (h:subN a b) (k:subN b a):a=b:=Nat.eq_of_testBit_eq fun i=>by
 cases ha:a.testBit i with
 | true=>exact (h i ha).symm
 | false=>
  cases hb:b.testBit i with
  | true=>rw [k i hb] at ha;cases ha
  | false=>rfl
theorem passN_up:∀ {l:List api_FD} {s:Nat},subN s (passN l s)
 | [],s=>subN_refl s
 | d::l,s=>by
  rw [passN]
  split
  ·exact subN_trans subN_or passN_up
  ·exact passN_up
theorem passN_lt:∀ {l:List api_FD} {s n:Nat},s<2^n→(∀ d∈l,sN d.Rhs<2^n)→passN l s<2^n
 | [],_,_,h,_=>h
 | d::l,s,n,h,hl=>by
  rw [passN]
  refine passN_lt ?_ fun x hx=>hl x (by simp [hx])
  split
  ·exact Nat.or_lt_two_pow h (hl d (by simp))
  ·exact h
theorem passK_fix {l:List api_FD} {s:Nat} (h:passN l s=s):∀ k,passK l k s=s
 | 0=>rfl
 | k+1=>by rw [passK,h];exact passK_fix h k
theorem szN_lt {a b:Nat} (hs:subN a b) (hne:a≠b) (hb:b<2^32):szN a<szN b:=by
 have hex:∃ i,b.testBit i=true∧a.testBit i=false:=by
  false_or_by_contra
  rename_i h
  refine hne (subN_anti hs fun i hi=>?_)
  cases ha:a.testBit i with
  | true=>rfl
  | false=>exact absurd ⟨i,hi,ha⟩ h
 obtain ⟨i,h1,h2⟩:=hex
 have hmem:i∈bitsOf b:=(bitsOf_mem hb).2 h1
 have ha:a<2^32:=by
  refine lt_iff.2 fun j hj=>?_
  exact lt_iff.1 hb j (hs j hj)
 have hsub:(bitsOf a).length+1≤(bitsOf b).length:=by
  have hnd:(i::bitsOf a).Nodup:=by
   rw [List.nodup_cons]
   refine ⟨fun h=>?_,(bitsOf_sorted (n:=a)).imp fun h=>by omega⟩
   rw [bitsOf_mem ha,h2] at h;cases h
  have:(i::bitsOf a) ⊆ bitsOf b:=by
   intro x hx
   rcases List.mem_cons.1 hx with rfl | hx
   ·exact hmem
   ·exact (bitsOf_mem hb).2 (hs x ((bitsOf_mem ha).1 hx))
  exact hnd.length_le_of_subset this
 exact hsub
end Go.Own
namespace Go.Own
def clr1 (d:api_FD):api_FD:=⟨d.Lhs,bAndNot .u32 d.Rhs d.Lhs⟩
def clrGo (out:List api_FD):List api_FD→List api_FD
 | []=>out
 | d::l=>clrGo (if (clr1 d).Rhs=0 then out else if clr1 d∈out then out else out++[clr1 d]) l
def clearF (l:List api_FD):List api_FD:=clrGo [] l
theorem clr1_u {d:api_FD} (h:U32 d.Lhs∧U32 d.Rhs):U32 (clr1 d).Lhs∧U32 (clr1 d).Rhs:=by
 refine ⟨h.1,?_⟩
 unfold clr1
 simp only
 rw [h.2.eq,h.1.eq,bAndNot_nat (k:=.u32) h.2.top h.1.top]
 exact U32.of (Nat.lt_of_le_of_lt ndiff_le h.2.lt)
theorem clr1_rhs {d:api_FD} (h:U32 d.Lhs∧U32 d.Rhs):sN (clr1 d).Rhs=ndiff (sN d.Rhs) (sN d.Lhs):=by
 unfold clr1
 simp only
 have:=bAndNot_nat (k:=.u32) h.2.top h.1.top
 rw [← h.2.eq,← h.1.eq] at this
 rw [this,sN_nat]
theorem clr1_idem {d:api_FD} (h:U32 d.Lhs∧U32 d.Rhs):clr1 (clr1 d)=clr1 d:=by
 have h1:=clr1_u h
 have h2:=clr1_u h1
 have:(clr1 (clr1 d)).Rhs=(clr1 d).Rhs:=by
  refine U32.ext h2.2 h1.2 ?_
  rw [clr1_rhs h1,clr1_rhs h]
  refine Nat.eq_of_testBit_eq fun i=>?_
  rw [ndiff_bit,ndiff_bit]
  show (_&&_&&!(sN d.Lhs).testBit i)=_
  cases (sN d.Rhs).testBit i<;>cases (sN d.Lhs).testBit i<;>rfl
 cases hd:clr1 (clr1 d) with
 | mk a b=>
  have e1:a=(clr1 d).Lhs:=by
   have:(clr1 (clr1 d)).Lhs=(clr1 d).Lhs:=rfl
   rw [hd] at this;exact this
  rw [hd] at this
  simp only at this
  rw [e1,this]
def IsClr (l:List api_FD):Prop:=(∀ d∈l,clr1 d=d∧d.Rhs≠0)∧l.Nodup
theorem clrGo_ok:∀ {l out:List api_FD},FdOK l→FdOK out→IsClr out→FdOK (clrGo out l)∧IsClr (clrGo out l)∧(clrGo out l).length≤out.length+l.length
 | [],out,_,ho,hc=>⟨ho,hc,by simp [clrGo]⟩
 | d::l,out,hl,ho,hc=>by
  have hd:=hl d (by simp)
  have hl':FdOK l:=fun x hx=>hl x (by simp [hx])
  rw [clrGo]
  split
  ·obtain ⟨h1,h2,h3⟩:=clrGo_ok hl' ho hc
   exact ⟨h1,h2,by simp only [List.length_cons];omega⟩
  ·rename_i h0
   split
   ·obtain ⟨h1,h2,h3⟩:=clrGo_ok hl' ho hc
    exact ⟨h1,h2,by simp only [List.length_cons];omega⟩
   ·rename_i hn
    obtain ⟨h1,h2,h3⟩:=clrGo_ok (out:=out++[clr1 d]) hl' (fun x hx=>by
     rcases List.mem_append.1 hx with hx | hx
     ·exact ho x hx
     ·rw [List.mem_singleton.1 hx];exact clr1_u hd) ⟨fun x hx=>by
     rcases List.mem_append.1 hx with hx | hx
     ·exact hc.1 x hx
     ·rw [List.mem_singleton.1 hx];exact ⟨clr1_idem hd,h0⟩,by
     rw [List.nodup_append]
     exact ⟨hc.2,by simp,fun a ha b hb=>by rw [List.mem_singleton.1 hb];rintro rfl;exact hn ha⟩⟩
    exact ⟨h1,h2,by simp only [List.length_append,List.length_cons,List.length_nil] at h3 ⊢;omega⟩
theorem clr_nil:IsClr []:=⟨fun x hx=>(List.not_mem_nil hx).elim,List.nodup_nil⟩
theorem fd_nil:FdOK []:=fun x hx=>(List.not_mem_nil hx).elim
theorem clear_ok {l:List api_FD} (hl:FdOK l):FdOK (clearF l):=(clrGo_ok hl fd_nil clr_nil).1
theorem clear_len {l:List api_FD} (hl:FdOK l):(clearF l).length≤l.length:=by
 have:=(clrGo_ok hl fd_nil clr_nil).2.2
 simpa [clearF] using this
def subI (a b:Int):Bool:=decide (sN a &&& sN b=sN a)
def leftF (l:List api_FD) (s:Int):Bool:=l.any fun d=>decide (d.Lhs=s)
def covF (l:List api_FD) (a b:Int):Bool:=l.all fun d=>subI a d.Lhs || subI b d.Lhs
def cloI (l:List api_FD) (s:Int):Int:=((cloN l (sN s):Nat):Int)
def possF (l:List api_FD) (x:api_Step):Bool:=
 if x.Kind=1 then decide (0<l.length)&&(decide (szN (sN x.First)=1)&&(decide (x.Second=0)&&covF l x.First x.First))
 else if x.Kind=2 then leftF l 0&&(decide (x.First=cloI l 0)&&decide (x.Second=0))
 else if x.Kind=3 then !decide (x.First=x.Second)&&(leftF l x.First&&(leftF l x.Second&&(decide (cloI l x.First=cloI l x.Second)&&covF l x.First x.Second)))
 else false
def StepOK (x:api_Step):Prop:=U32 x.First∧U32 x.Second
def cutF (l:List api_FD) (s:Int):List api_FD:=l.map fun d=>⟨bAndNot .u32 d.Lhs s,bAndNot .u32 d.Rhs s⟩
theorem andU (a b:Int) (ha:U32 a) (hb:U32 b):U32 (bAndNot .u32 a b):=by
 rw [ha.eq,hb.eq,bAndNot_nat (k:=.u32) ha.top hb.top]
 exact U32.of (Nat.lt_of_le_of_lt ndiff_le ha.lt)
theorem cut_ok {l:List api_FD} {s:Int} (hl:FdOK l) (hs:U32 s):FdOK (cutF l s):=fun d hd=>by
 obtain ⟨x,hx,rfl⟩:=List.mem_map.1 hd
 exact ⟨andU _ _ (hl x hx).1 hs,andU _ _ (hl x hx).2 hs⟩
def applyF (l:List api_FD) (x:api_Step):List api_FD×Int:=
 if possF (clearF l) x=true then (clearF (cutF (clearF l) (bOr .u32 x.First x.Second)),0) else ([],1)
def comGo (s:Nat) (l:List api_FD):Nat:=l.foldl (fun s d=>s &&& sN d.Lhs) s
def comN:List api_FD→Nat
 | []=>0
 | d::l=>comGo (sN d.Lhs) (d::l)
theorem comGo_bit {i:Nat}:∀ {l:List api_FD} {s:Nat},(comGo s l).testBit i=(s.testBit i&&l.all fun d=>(sN d.Lhs).testBit i)
 | [],s=>by simp [comGo]
 | d::l,s=>by
  have:=comGo_bit (i:=i) (l:=l) (s:=s &&& sN d.Lhs)
  unfold comGo at this ⊢
  rw [List.foldl_cons,this,Nat.testBit_and,List.all_cons,Bool.and_assoc]
theorem comN_bit {i:Nat} {l:List api_FD} (h:l≠[]):(comN l).testBit i=l.all fun d=>(sN d.Lhs).testBit i:=by
 cases l with
 | nil=>exact absurd rfl h
 | cons d l=>
  rw [comN,comGo_bit,List.all_cons]
  cases (sN d.Lhs).testBit i<;>rfl
theorem comGo_lt:∀ {l:List api_FD} {s:Nat},s<2^32→comGo s l<2^32
 | [],s,h=>h
 | d::l,s,h=>by
  unfold comGo
  rw [List.foldl_cons]
  exact comGo_lt (Nat.lt_of_le_of_lt Nat.and_le_left h)
theorem comN_lt {l:List api_FD} (hl:FdOK l):comN l<2^32:=by
 cases l with
 | nil=>rw [comN];decide
 | cons d l=>exact comGo_lt (hl d (by simp)).1.lt
theorem sub_com {l:List api_FD} {a:Int} (h:l≠[]):(sN a &&& comN l=sN a)↔covF l a a=true:=by
 unfold covF subI
 rw [List.all_eq_true,sub_iff]
 constructor
 ·intro hh d hd
  rw [Bool.or_self,decide_eq_true_eq,sub_iff]
  intro i hi
  have:=hh i hi
  rw [comN_bit h,List.all_eq_true] at this
  exact this d hd
 ·intro hh i hi
  rw [comN_bit h,List.all_eq_true]
  intro d hd
  have:=hh d hd
  rw [Bool.or_self,decide_eq_true_eq,sub_iff] at this
  exact this i hi
theorem szN_pow {a:Nat} (ha:a<32):szN (2^a)=1:=by
 have h0:(2^a:Nat)≠0:=Nat.ne_of_gt (Nat.pow_pos (by omega))
 have h1:(2^a:Nat)<2^32:=Nat.pow_lt_pow_right (by omega) ha
 unfold szN
 rw [bitsOf_cons h0 h1,Nat.and_two_pow_sub_one_eq_mod,Nat.mod_self,bitsOf_zero];rfl
theorem pow_sub {a:Nat} {b:Int}:subI ((2^a:Nat):Int) b=(sN b).testBit a:=by
 unfold subI
 rw [sN_nat]
 cases h:(sN b).testBit a with
 | true=>
  refine decide_eq_true (sub_iff.2 fun i hi=>?_)
  rw [Nat.testBit_two_pow] at hi
  have:a=i:=by simpa using hi
  rw [← this];exact h
 | false=>
  refine decide_eq_false fun hh=>?_
  have:=sub_iff.1 hh a (by rw [Nat.testBit_two_pow];simp)
  rw [h] at this;cases this
theorem poss_bit {l:List api_FD} {a:Nat} (ha:a<32):possF l ⟨1,((2^a:Nat):Int),0⟩=(comN l).testBit a:=by
 unfold possF
 rw [if_pos rfl]
 simp only [sN_nat,szN_pow ha,decide_true,Bool.true_and]
 cases l with
 | nil=>simp [comN]
 | cons d l=>
  rw [comN_bit (by simp)]
  simp only [List.length_cons,Nat.zero_lt_succ,decide_true,Bool.true_and,covF,pow_sub,Bool.or_self]
def firstN (p:Nat→Bool):Nat→Nat→Option Nat
 | 0,_=>none
 | n+1,k=>if p k=true then some k else firstN p n (k+1)
theorem firstN_some {p:Nat→Bool} {i:Nat} (hi:p i=true):∀ {n k:Nat},(∀ j,k≤j→j<i→p j=false)→k≤i→i<k+n→firstN p n k=some i
 | 0,k,_,h1,h2=>by omega
 | n+1,k,h,h1,h2=>by
  rw [firstN]
  by_cases hk:k=i
  ·rw [hk,if_pos hi]
  ·rw [if_neg (by rw [h k (Nat.le_refl k) (by omega)];decide)]
   exact firstN_some hi (fun j hj=>h j (by omega)) (by omega) (by omega)
theorem firstN_none {p:Nat→Bool}:∀ {n k:Nat},(∀ j,k≤j→j<k+n→p j=false)→firstN p n k=none
 | 0,k,_=>rfl
 | n+1,k,h=>by
  rw [firstN,if_neg (by rw [h k (Nat.le_refl k) (by omega)];decide)]
  exact firstN_none fun j h1 h2=>h j (by omega) (by omega)
theorem least_bit {x:Nat} (h:x≠0):∃ i,x.testBit i=true∧∀ j,j<i→x.testBit j=false:=by
 obtain ⟨i,hi⟩:∃ i,x.testBit i=true:=by
  false_or_by_contra
  rename_i hn
  exact h (Nat.eq_of_testBit_eq fun i=>by
   rw [Nat.zero_testBit]
   cases hb:x.testBit i with
   | false=>rfl
   | true=>exact absurd ⟨i,hb⟩ hn)
 induction i using Nat.strongRecOn with
 | ind i ih=>
  by_cases hex:∃ j,j<i∧x.testBit j=true
  ·obtain ⟨j,hj,hb⟩:=hex
   exact ih j hj hb
  ·exact ⟨i,hi,fun j hj=>by
    cases hb:x.testBit j with
    | false=>rfl
    | true=>exact absurd ⟨j,hj,hb⟩ hex⟩
theorem bit_lt {x i:Nat} (hx:x<2^32) (h:x.testBit i=true):i<32:=by
 false_or_by_contra
 rename_i hge
 rw [Nat.testBit_lt_two_pow (Nat.lt_of_lt_of_le hx (Nat.pow_le_pow_right (by omega) (by omega)))] at h
 cases h
def sidesF (l:List api_FD):List Int:=ordL (l.map fun d=>d.Lhs)
theorem sides_mem {l:List api_FD} (hl:FdOK l) {s:Int}:s∈sidesF l↔leftF l s=true:=by
 have hu:AllU (l.map fun d=>d.Lhs):=fun y hy=>by
  obtain ⟨d,hd,rfl⟩:=List.mem_map.1 hy
  exact (hl d hd).1
 unfold sidesF leftF
 rw [ordL_mem hu,List.any_eq_true,List.mem_map]
 simp only [decide_eq_true_eq]
theorem sides_all {l:List api_FD} (hl:FdOK l):AllU (sidesF l):=ordL_all fun y hy=>by
 obtain ⟨d,hd,rfl⟩:=List.mem_map.1 hy
 exact (hl d hd).1
theorem sides_len {l:List api_FD}:(sidesF l).length≤l.length:=by
 have:=ordL_len (l:=l.map fun d=>d.Lhs)
 simpa [sidesF] using this
def pairGo (l:List api_FD):List Int→Option (Int×Int)
 | []=>none
 | a::r=>match r.find? (fun b=>possF l ⟨3,a,b⟩) with
  | some b=>some (a,b)
  | none=>pairGo l r
def nextF (l:List api_FD):api_Step×Bool:=match firstN (fun a=>possF l ⟨1,((2^a:Nat):Int),0⟩) 32 0 with
 | some a=>(⟨1,((2^a:Nat):Int),0⟩,true)
 | none=>if possF l ⟨2,cloI l 0,0⟩=true then (⟨2,cloI l 0,0⟩,true) else match pairGo l (sidesF l) with
  | some q=>(⟨3,q.1,q.2⟩,true)
  | none=>(⟨0,0,0⟩,false)
theorem next_common {l:List api_FD} (hl:FdOK l):firstN (fun a=>possF l ⟨1,((2^a:Nat):Int),0⟩) 32 0=if comN l=0 then none else firstN (fun a=>(comN l).testBit a) 32 0:=by
 have e:∀ n k,k+n≤32→firstN (fun a=>possF l ⟨1,((2^a:Nat):Int),0⟩) n k=firstN (fun a=>(comN l).testBit a) n k:=by
  intro n
  induction n with
  | zero=>intro k _;rfl
  | succ n ih=>intro k hk;rw [firstN,firstN,poss_bit (by omega),ih (k+1) (by omega)]
 rw [e 32 0 (by omega)]
 split
 ·rename_i h0
  rw [h0]
  exact firstN_none fun j _ _=>Nat.zero_testBit j
 ·rfl
theorem U32_zero:U32 0:=⟨by omega,by omega⟩
end Go.Own
namespace Go.Own
def pop8 (m:Nat):Nat:=((List.range 8).filter fun i=>m.testBit i).length
theorem filter_shift {n k:Nat}:((List.range 8).map (·+k)).filter (fun i=>n.testBit i)=((List.range 8).filter fun i=>(n / 2^k % 256).testBit i).map (·+k):=by
 rw [List.filter_map]
 congr 1
 refine List.filter_congr fun i hi=>?_
 have hi:=List.mem_range.1 hi
 simp only [Function.comp]
 rw [show (256:Nat)=2^8 from rfl,Nat.testBit_mod_two_pow,Nat.testBit_div_two_pow]
 simp [hi]
theorem szN_bytes (n:Nat):szN n=pop8 (n % 256)+pop8 (n / 2^8 % 256)+pop8 (n / 2^16 % 256)+pop8 (n / 2^24 % 256):=by
 have e:List.range 32=(List.range 8).map (·+0)++(List.range 8).map (·+8)++(List.range 8).map (·+16)++(List.range 8).map (·+24):=by decide
 unfold szN bitsOf pop8
 rw [e,List.filter_append,List.filter_append,List.filter_append,filter_shift,filter_shift,filter_shift,filter_shift]
 simp only [List.length_append,List.length_map,Nat.pow_zero,Nat.div_one]
theorem and255 (a:Nat):a &&& 255=a % 256:=Nat.and_two_pow_sub_one_eq_mod a 8
theorem pop8_le {m:Nat}:pop8 m≤8:=by
 unfold pop8
 exact Nat.le_trans (List.length_filter_le _ _) (by simp)
theorem u8i_pop {m:Nat}:u8i (UInt8.ofNat (pop8 m))=(pop8 m:Int):=by
 unfold u8i
 rw [UInt8.toNat_ofNat']
 have:=pop8_le (m:=m)
 omega
theorem math_bits_OnesCount32.spec {n:Nat} (hn:n<2^32):math_bits_OnesCount32.C n (szN n:Int):=by
 obtain ⟨r,h1,h2⟩:=math_bits_OnesCount32.enter n (fun r=>r=(szN n:Int)) (by
  have ht:n<2^top .u32:=by simpa [top] using hn
  have e24:=shrw_nat (k:=.u32) (a:=n) (i:=24) ht
  have e16:=shrw_nat (k:=.u32) (a:=n) (i:=16) ht
  have e8:=shrw_nat (k:=.u32) (a:=n) (i:=8) ht
  rw [show ((24:Nat):Int)=24 from rfl] at e24
  rw [show ((16:Nat):Int)=16 from rfl] at e16
  rw [show ((8:Nat):Int)=8 from rfl] at e8
  have a255:∀ a:Nat,a<2^32→bAnd .u32 (a:Int) 255=((a % 256:Nat):Int):=fun a ha=>by
   have:=bAnd_nat (k:=.u32) (a:=a) (b:=255) (by simpa [top] using ha) (by simp only [top];omega)
   rw [show ((255:Nat):Int)=255 from rfl] at this
   rw [this,and255]
  rw [e24,e16,e8,a255 _ (Nat.lt_of_le_of_lt (Nat.div_le_self _ _) hn),a255 _ (Nat.lt_of_le_of_lt (Nat.div_le_self _ _) hn),a255 _ hn]
  have h24:n / 2^24<256:=by omega
  have em:n / 2^24=n / 2^24 % 256:=(Nat.mod_eq_of_lt h24).symm
  have hs:=szN_bytes n
  rw [em]
  have m1:n / 2^24 % 256<256:=Nat.mod_lt _ (by omega)
  have m2:n / 2^16 % 256<256:=Nat.mod_lt _ (by omega)
  have m3:n / 2^8 % 256<256:=Nat.mod_lt _ (by omega)
  have m4:n % 256<256:=Nat.mod_lt _ (by omega)
  generalize n / 2^24 % 256=q1 at *
  generalize n / 2^16 % 256=q2 at *
  generalize n / 2^8 % 256=q3 at *
  generalize n % 256=q4 at *
  clear hn ht e24 e16 e8 a255 h24 em
  refine ⟨UInt8.ofNat (pop8 q1),⟨by omega,?_⟩,UInt8.ofNat (pop8 q2),⟨by omega,?_⟩,UInt8.ofNat (pop8 q3),⟨by omega,?_⟩,UInt8.ofNat (pop8 q4),⟨by omega,?_⟩,?_⟩
  ·rw [Int.toNat_natCast]
   clear hs m2 m3 m4
   revert q1
   decide +kernel
  ·rw [Int.toNat_natCast]
   clear hs m1 m3 m4
   revert q2
   decide +kernel
  ·rw [Int.toNat_natCast]
   clear hs m1 m2 m4
   revert q3
   decide +kernel
  ·rw [Int.toNat_natCast]
   clear hs m1 m2 m3
   revert q4
   decide +kernel
  ·rw [u8i_pop,u8i_pop,u8i_pop,u8i_pop]
   have b1:=pop8_le (m:=q1)
   have b2:=pop8_le (m:=q2)
   have b3:=pop8_le (m:=q3)
   have b4:=pop8_le (m:=q4)
   have w8:∀ a b:Nat,a+b<256→IntKind.wrap .u8 ((a:Int)+(b:Int))=((a+b:Nat):Int):=fun a b h=>by
    rw [show (a:Int)+(b:Int)=((a+b:Nat):Int) by omega]
    exact wrap_top (k:=.u8) (by simpa [top] using h)
   rw [w8 _ _ (by omega),w8 _ _ (by omega),w8 _ _ (by omega),hs]
   have:pop8 q1+pop8 q2+pop8 q3+pop8 q4=pop8 q4+pop8 q3+pop8 q2+pop8 q1:=by omega
   rw [this]
   exact wrap_id (by omega) (by omega))
 rw [← h1];exact h2
theorem attrset_Size.spec {x:Int} (hx:U32 x):attrset_Size.C x (szN (sN x):Int):=by
 have:=math_bits_OnesCount32.spec hx.lt
 rw [← hx.eq] at this
 obtain ⟨r,h1,h2⟩:=attrset_Size.enter x (fun r=>r=(szN (sN x):Int)) ⟨_,this,rfl⟩
 rw [← h1];exact h2
end Go.Own
namespace Go.Own
namespace drossref02_Has
theorem spec {n i:Nat} (hn:n<2^32):C n i (n.testBit i):=by
 obtain ⟨r,h1,h2⟩:=enter n i (fun r=>r=n.testBit i) (by
  rw [if_pos (by omega)]
  split
  ·refine ⟨by omega,?_⟩
   rw [bit_nat (k:=.u32) (by simpa [top] using hn) (by decide)]
   cases n.testBit i<;>rfl
  ·rw [Nat.testBit_lt_two_pow (Nat.lt_of_lt_of_le hn (Nat.pow_le_pow_right (by decide) (by omega)))])
 rw [← h1];exact h2
end drossref02_Has
end Go.Own
namespace Go.Own
theorem drossref02_Members.spec {n:Nat} (hn:n<2^32):drossref02_Members.C n ((bitsOf n).map fun (i:Nat)=>(i:Int)):=by
 obtain ⟨r,h1,h2⟩:=drossref02_Members.enter n (fun r=>r=(bitsOf n).map fun (i:Nat)=>(i:Int)) (by
  have:∀ (m k:Nat),32-k≤m→k≤32→drossref02_Members.L1 n (((List.range k).filter fun i=>n.testBit i).map fun (i:Nat)=>(i:Int)) k (fun r=>r=(bitsOf n).map fun (i:Nat)=>(i:Int)):=by
   intro m
   induction m with
   | zero=>
    intro k hm hk
    apply drossref02_Members.L1_step
    rw [if_neg (by omega)]
    have e:k=32:=by omega
    subst e;rfl
   | succ m ih=>
    intro k hm hk
    apply drossref02_Members.L1_step
    by_cases hlt:k<32
    ·rw [if_pos (by omega)]
     refine ⟨_,drossref02_Has.spec hn,?_⟩
     have hlen:(((List.range k).filter fun i=>n.testBit i).map fun (i:Nat)=>(i:Int)).length≤32:=by
      rw [List.length_map]
      exact Nat.le_trans (List.length_filter_le _ _) (by simp;omega)
     have:=ih (k+1) (by omega) (by omega)
     rw [List.range_succ,List.filter_append,List.map_append] at this
     by_cases hb:n.testBit k=true
     ·rw [if_pos hb]
      refine ⟨by omega,?_⟩
      apply drossref02_Members.L2_step
      rw [wrap_succ (by omega)]
      simpa [hb] using this
     ·rw [if_neg hb]
      apply drossref02_Members.L2_step
      rw [wrap_succ (by omega)]
      simpa [hb] using this
    ·rw [if_neg (by omega)]
     have e:k=32:=by omega
     subst e;rfl
  exact this 32 0 (by omega) (by omega))
 rw [← h1];exact h2
end Go.Own
namespace Go.Own
end Go.Own
namespace Go.Own
end Go.Own
