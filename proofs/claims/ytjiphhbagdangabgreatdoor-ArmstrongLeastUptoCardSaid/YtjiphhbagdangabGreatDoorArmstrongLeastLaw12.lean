/- What the functions that the law reaches answer. No conditions. -/
import Derived.Test.YtjiphhbagdangabGreatDoorArmstrongLeastLaw11
import Derived.Test.YtjiphhbagdangabGreatDoorOwn34
import Derived.Test.YtjiphhbagdangabGreatDoorArmstrongLeastLaw6
import Derived.Test.YtjiphhbagdangabGreatDoorArmstrongLeastLaw3
set_option linter.all false
namespace Go.Own
def depL (n:Nat) (L:List drossref09_Dep):List api_FD:=L.map fun x=>{ Lhs:=((sN x.L &&& (2^n-1):Nat):Int),Rhs:=((sN x.R &&& (2^n-1):Nat):Int) }
def DepOK (L:List drossref09_Dep):Prop:=∀ x∈L,(0≤x.L∧x.L<256)∧0≤x.R∧x.R<256
theorem dep_and {x:Int} (h:0≤x∧x<256) {n:Nat} (hn:n≤16):bAnd .u32 (IntKind.wrap .u32 x) ((2^n-1:Nat):Int)=((sN x &&& (2^n-1):Nat):Int):=by
 have hp:=pow16 hn
 have e:x=((sN x:Nat):Int):=by unfold sN;omega
 have e2:IntKind.wrap .u32 x=((sN x:Nat):Int):=by
  conv=>lhs;rw [e]
  exact wrap_top (k:=.u32) (by simp only [top];unfold sN;omega)
 rw [e2]
 exact bAnd_nat (k:=.u32) (by simp only [top];unfold sN;omega) (by simp only [top];omega)
theorem and_pow {x n:Nat}:x &&& (2^n-1)<2^n:=by
 have:=Nat.and_le_right (n:=x) (m:=2^n-1)
 have:0<2^n:=Nat.pow_pos (by omega)
 omega
theorem drossref09_List.spec {n:Nat} {L:List drossref09_Dep} (hn:n≤16) (hL:DepOK L) (hlen:L.length≤4000000):drossref09_List.C n L (depL n L):=by
 obtain ⟨r,h1,h2⟩:=drossref09_List.enter n L (fun r=>r=depL n L) (by
  refine ⟨_,full_spec hn,?_⟩
  have:∀ (r:List drossref09_Dep) (k:Nat),L.drop k=r→k≤L.length→drossref09_List.L1 L ((2^n-1:Nat):Int) (depL n (L.take k)) k (fun r=>r=depL n L):=by
   intro r
   induction r with
   | nil=>
    intro k hd hk
    have:=drop_ge hd
    apply drossref09_List.L1_step
    rw [if_neg (by omega),List.take_of_length_le (by omega)]
   | cons x r ih=>
    intro k hd hk
    have hlt:=drop_lt hd
    have hx:=hL x (List.mem_of_getElem? (drop_get hd))
    have next:=ih (k+1) (drop_next hd) (by omega)
    rw [List.take_add_one,drop_get hd,Option.toList_some] at next
    unfold depL at next
    rw [List.map_append,List.map_cons,List.map_nil] at next
    apply drossref09_List.L1_step
    rw [if_pos (by omega)]
    refine ⟨x,lget_drop hd,?_⟩
    rw [dep_and hx.1 hn,dep_and hx.2 hn,wrap_succ (by omega)]
    exact ⟨by unfold depL;rw [List.length_map,List.length_take];omega,next⟩
  exact this L 0 rfl (Nat.zero_le _))
 rw [← h1];exact h2
def depN (N:Int):Nat:=(N % 7).toNat
theorem depN_lt {N:Int}:depN N≤6:=by unfold depN;omega
theorem drossref09_Of.spec {d:drossref09_Deps} (hN:0≤d.N∧d.N<256) (hL:DepOK d.L) (hlen:d.L.length≤4000000):drossref09_Of.C d (((depN d.N:Nat):Int),depL (depN d.N) d.L,decide ((d.L.length:Int)≤6)):=by
 obtain ⟨r,h1,h2⟩:=drossref09_Of.enter d (fun r=>r=(((depN d.N:Nat):Int),depL (depN d.N) d.L,decide ((d.L.length:Int)≤6))) (by
  have e:IntKind.wrap .i64 (Int.tmod d.N 7)=((depN d.N:Nat):Int):=by
   rw [Int.tmod_eq_emod_of_nonneg hN.1]
   have:d.N % 7=((depN d.N:Nat):Int):=by unfold depN;omega
   rw [this]
   exact wrap_top (k:=.i64) (by simp only [top];have:=depN_lt (N:=d.N);omega)
  rw [e]
  exact ⟨_,drossref09_List.spec (by have:=depN_lt (N:=d.N);omega) hL hlen,rfl⟩)
 rw [← h1];exact h2
theorem wtLL_len:∀ (es:List (List D)),es.length≤wtLL es
 | []=>Nat.le_refl _
 | x::r=>by simp only [wtLL,List.length_cons];have:=wtLL_len r;omega
theorem depL_ok {n:Nat} {L:List drossref09_Dep} (hn:n≤16):FdOK (depL n L):=fun d hd=>by
 obtain ⟨x,_,rfl⟩:=List.mem_map.1 hd
 have hp:=pow16 hn
 exact ⟨U32.of (Nat.lt_of_lt_of_le and_pow (by omega)),U32.of (Nat.lt_of_lt_of_le and_pow (by omega))⟩
theorem depL_len {n:Nat} {L:List drossref09_Dep}:(depL n L).length=L.length:=by simp [depL]
theorem depL_err {n:Nat} {L:List drossref09_Dep} (hn:n≤6) (hl:L.length≤6):errA (n:Int) (depL n L)=0:=by
 have h0:fdsE (n:Int) (depL n L)=0:=by
  unfold fdsE
  rw [if_neg (by omega),if_neg (by rw [depL_len];omega),if_pos]
  rw [List.all_eq_true]
  intro d hd
  obtain ⟨x,_,rfl⟩:=List.mem_map.1 hd
  unfold inU
  rw [sN_nat,sN_nat,Int.toNat_natCast,decide_eq_true and_pow,decide_eq_true and_pow];rfl
 unfold errA
 rw [if_pos h0,if_neg (by omega)]
end Go.Own
namespace Go.Own
theorem name1 {b:UInt8} (h:(letB (u8i b)&&true)=true):nameF ⟨#[b]⟩=true:=by
 unfold nameF
 have e:(⟨#[b]⟩:ByteArray).toList=[b]:=bl_mk (l:=[b])
 rw [e]
 simp only [nameL,List.length_nil,List.all_nil,Bool.and_true] at h ⊢
 rw [h]
 have:decide ([b]=nullB)=false:=decide_eq_false (by unfold nullB;simp)
 rw [this];rfl
theorem namesGo_ok:∀ (r pre:List ByteArray),(∀ x∈r,nameF x=true)→(pre++r).Nodup→namesGo pre r=true
 | [],_,_,_=>rfl
 | a::r,pre,hn,hd=>by
  rw [namesGo,hn a (by simp),namesGo_ok r (pre++[a]) (fun x hx=>hn x (by simp [hx])) (by rw [List.append_assoc];exact hd)]
  have:pre.any (eqS a)=false:=by
   rw [List.any_eq_false]
   intro x hx
   unfold eqS
   rw [decide_eq_true_iff]
   intro he
   subst he
   rw [List.nodup_append] at hd
   exact hd.2.2 x hx x (by simp) rfl
  rw [this];rfl
theorem abc_names {m:Nat}:namesF (abcL.take m)=true:=by
 unfold namesF
 refine namesGo_ok _ [] (fun x hx=>?_) ?_
 ·have hx:=List.mem_of_mem_take hx
  unfold abcL at hx
  simp only [List.mem_cons,List.not_mem_nil,or_false] at hx
  rcases hx with rfl | rfl | rfl | rfl | rfl | rfl | rfl | rfl | rfl | rfl<;>exact name1 (by decide)
 ·rw [List.nil_append]
  have:abcL.Nodup:=by decide +kernel
  exact this.sublist (List.take_sublist _ _)
theorem armV_valid {n k m:Nat}:validsF (armV n k m)=true:=by
 unfold validsF
 rw [List.all_eq_true]
 intro v hv
 obtain ⟨i,_,rfl⟩:=List.mem_map.1 hv
 unfold validV
 rw [decide_eq_true_iff]
 exact .inr (.inl ⟨rfl,bl_nil⟩)
theorem rowsF_arm {n:Nat}:∀ {ms:List Nat} {k:Nat} {last:Int},last≤(k:Int)→rowsF n last (armRows n k ms)=0
 | [],_,_,_=>rfl
 | m::r,k,last,h=>by
  rw [armRows,rowsF,if_neg (by show ¬ (((k+1:Nat):Int)≤last);omega),if_pos (show (armRow n k m).Values.length=n from armV_len),if_pos (show validsF (armRow n k m).Values=true from armV_valid)]
  exact rowsF_arm (Int.le_refl _)
theorem armMs_small {n:Nat} {l:List api_FD} (hn:n≤6):(armMs n l).length≤65:=by
 unfold armMs
 rw [List.length_cons,List.length_map]
 have h1:(irrL n (closedL n l)).length≤(closedL n l).length:=List.length_filter_le _ _
 have h2:(closedL n l).length≤2^n:=by
  unfold closedL
  refine Nat.le_trans (List.length_filter_le _ _) ?_
  rw [subs_len (by omega)];exact Nat.le_refl _
 have h3:2^n≤2^6:=Nat.pow_le_pow_right (n:=2) (by omega) hn
 omega
theorem arm_TV {n:Nat} {l:List api_FD} (hn:n≤6):TV (armT n l) where
 name:=name1 (by decide)
 na:=by show (abcL.take n).length≤16;rw [List.length_take];omega
 nr:=by show (armRows n 0 (armMs n l)).length≤1000;rw [armRows_len];have:=armMs_small (l:=l) hn;omega
 names:=abc_names
 rows:=by
  have e:(armT n l).Attrs.length=n:=by
   show (abcL.take n).length=n
   rw [List.length_take];have:abcL.length=10:=rfl
   omega
  rw [e];exact rowsF_arm (Int.le_refl _)
theorem arm_attrs {n:Nat} {l:List api_FD} (hn:n≤6):(armT n l).Attrs.length=n:=by
 show (abcL.take n).length=n
 rw [List.length_take];have:abcL.length=10:=rfl
 omega
theorem armRows_num {n:Nat}:∀ {ms:List Nat} {k:Nat},k+ms.length≤100000→∀ r∈armRows n k ms,∀ v∈r.Values,NumOK v
 | [],_,_,r,hr=>by cases hr
 | m::ms,k,hk,r,hr=>by
  rw [List.length_cons] at hk
  rcases List.mem_cons.1 hr with rfl | hr
  ·intro v hv
   obtain ⟨i,_,rfl⟩:=List.mem_map.1 hv
   unfold NumOK
   simp only
   split<;>omega
  ·exact armRows_num (by omega) r hr
theorem arm_num {n:Nat} {l:List api_FD} (hn:n≤6):TNum (armT n l):=armRows_num (by have:=armMs_small (l:=l) hn;omega)
namespace drosslaw19_ArmstrongHolds
end drosslaw19_ArmstrongHolds
end Go.Own
namespace Go.Own
theorem rowsF_sub {n:Nat} {a b:List api_Row} (h:List.Sublist a b):∀ {last last':Int},last'≤last→rowsF n last b=0→rowsF n last' a=0:=by
 induction h with
 | slnil=>intro _ _ _ _;rfl
 | cons x _ ih=>
  intro last last' hl hb
  rw [rowsF] at hb
  split at hb
  ·cases hb
  ·split at hb
   ·split at hb
    ·exact ih (by omega) hb
    ·cases hb
   ·cases hb
 | cons_cons x _ ih=>
  intro last last' hl hb
  rw [rowsF] at hb ⊢
  split at hb
  ·cases hb
  ·rename_i h1
   split at hb
   ·rename_i h2
    split at hb
    ·rename_i h3
     rw [if_neg (by omega),if_pos h2,if_pos h3]
     exact ih (Int.le_refl _) hb
    ·cases hb
   ·cases hb
def lessT (t:api_Table) (i:Nat):api_Table:=⟨t.Name,t.Attrs,t.Rows.take i++t.Rows.drop (i+1)⟩
theorem less_sub {t:api_Table} {i:Nat}:(lessT t i).Rows.Sublist t.Rows:=by
 show (t.Rows.take i++t.Rows.drop (i+1)).Sublist t.Rows
 rw [← List.eraseIdx_eq_take_drop_succ]
 exact List.eraseIdx_sublist _ _
theorem less_TV {t:api_Table} {i:Nat} (h:TV t):TV (lessT t i) where
 name:=h.name
 na:=h.na
 nr:=Nat.le_trans less_sub.length_le h.nr
 names:=h.names
 rows:=rowsF_sub less_sub (Int.le_refl _) h.rows
theorem less_num {t:api_Table} {i:Nat} (h:TNum t):TNum (lessT t i):=fun r hr=>h r (less_sub.subset hr)
theorem less_err {n:Nat} {l:List api_FD} {i:Nat} (hn:n≤6) (h0:errA (n:Int) l=0):errT (lessT (armT n l) i) l=0:=by
 unfold errT
 have h1:(lessT (armT n l) i).Rows.length≤(armT n l).Rows.length:=less_sub.length_le
 have h2:(armT n l).Rows.length=(armMs n l).length:=armRows_len
 have:=armMs_small (l:=l) hn
 rw [if_pos (tableF_iff.2 (less_TV (arm_TV hn))),if_neg (by omega)]
 show errA (((armT n l).Attrs.length:Nat):Int) l=0
 rw [arm_attrs hn];exact h0
namespace drosslaw19_ArmstrongLeast
theorem again {φ:Bool→Prop} (h:φ true):L1 φ:=L1_step φ ⟨true,drosslaw19_awake.spec,h⟩
theorem spec (d:drossref09_Deps) (k:Int) (hN:0≤d.N∧d.N<256) (hL:DepOK d.L) (hlen:d.L.length≤4000000) (hk:0≤k∧k<256):C d k true:=by
 obtain ⟨r,h1,h2⟩:=enter d k (fun r=>r=true) (by
  refine ⟨_,drossref09_Of.spec hN hL hlen,true,drosslaw19_awake.spec,?_⟩
  rw [if_pos rfl]
  by_cases h6:(d.L.length:Int)≤6
  ·rw [if_pos (decide_eq_true h6)]
   have hn6:=depN_lt (N:=d.N)
   have h0:=depL_err (n:=depN d.N) (L:=d.L) hn6 (by omega)
   have hok:=depL_ok (n:=depN d.N) (L:=d.L) (by omega)
   have hll:(depL (depN d.N) d.L).length<1000000000:=by rw [depL_len];omega
   have hf:FdIn (depN d.N) (depL (depN d.N) d.L):=by
    have:=fdsE_in (errA_n h0).2.2
    rwa [Int.toNat_natCast] at this
   generalize depN d.N=n at *
   generalize depL n d.L=l at *
   have ei:irrF (n:Int) l=(irrL n (closedL n l),0):=by unfold irrF;rw [if_pos h0,Int.toNat_natCast]
   have e:armF (n:Int) l=(armT n l,0):=by
    unfold armF
    rw [ei,if_pos rfl,Int.toNat_natCast]
   have el:lstF (n:Int) l=(((lstGo (irrL n (closedL n l)).length 100 0:Nat):Int),0):=by
    unfold lstF
    rw [ei,if_pos rfl]
   have hb:=armstrong_Build.spec (n:=(n:Int)) hok hll
   rw [e] at hb
   have hls:=armstrong_Least.spec (n:=(n:Int)) hok hll
   rw [el] at hls
   refine ⟨_,hb,_,hls,?_⟩
   dsimp only
   have hlen2:(armT n l).Rows.length=(armMs n l).length:=armRows_len
   have hsm:=armMs_small (l:=l) hn6
   have hpos:0<(armT n l).Rows.length:=by rw [hlen2];unfold armMs;simp
   have hle:=least_rows (arm_TV (l:=l) hn6) (by omega) hf (arm_exact (by omega) hf (arm_TV hn6) rfl) 100
   rw [if_pos rfl,if_pos rfl,if_neg (by omega),if_neg (by omega)]
   generalize hm:(armT n l).Rows.length=m at *
   have e1:IntKind.wrap .i64 k=k:=wrap_id (by omega) (by omega)
   have e2:Int.tmod k (m:Int)=((k.toNat % m:Nat):Int):=by
    rw [Int.tmod_eq_emod_of_nonneg hk.1,Int.natCast_emod];congr 1;omega
   have hi:k.toNat % m<m:=Nat.mod_lt _ hpos
   generalize k.toNat % m=i at *
   have e3:IntKind.wrap .i64 ((i:Int)+1)=((i+1:Nat):Int):=by rw [wrap_id (by omega) (by omega)];omega
   rw [e1,e2,e3,Int.toNat_natCast,Int.toNat_natCast,Nat.sub_zero]
   have e4:(List.drop (i+1) (armT n l).Rows).take (m-(i+1))=List.drop (i+1) (armT n l).Rows:=List.take_of_length_le (by rw [List.length_drop];omega)
   rw [e4]
   have l1:(List.take i (armT n l).Rows).length≤m:=by rw [List.length_take];omega
   have l2:(List.drop (i+1) (armT n l).Rows).length≤m:=by rw [List.length_drop];omega
   refine ⟨by omega,by omega,⟨by omega,by omega⟩,by omega,by omega,⟨by omega,Nat.le_refl _⟩,by omega,?_⟩
   refine ⟨_,armstrong_Exact.spec (t:=lessT (armT n l) i) (less_num (arm_num hn6)) hok hll,_,drossref19_Exact.spec (t:=lessT (armT n l) i) hok hll,?_⟩
   have he:=less_err (i:=i) hn6 h0
   have ex:exactF (lessT (armT n l) i) l=(exB (lessT (armT n l) i) l n,0):=by
    unfold exactF
    rw [if_pos he]
    show (exB (lessT (armT n l) i) l (armT n l).Attrs.length,(0:Int))=_
    rw [arm_attrs hn6]
   rw [ex,if_pos rfl,if_pos rfl]
   split
   ·rename_i hx
    have:=least_rows (less_TV (i:=i) (arm_TV (l:=l) hn6)) (by omega) hf (exB_iff.1 hx) 100
    exact decide_eq_true (by
     show ((lstGo (irrL n (closedL n l)).length 100 0:Nat):Int)≤(((lessT (armT n l) i).Rows.length:Nat):Int)
     omega)
   ·rfl
  ·rw [if_neg (by simpa using h6)]
   exact again rfl)
 subst h1;exact h2
theorem law {xs:List D} (hx:TyAll env.P drosslaw19_ArmstrongLeast_K drosslaw19_ArmstrongLeast_T xs) (hw:wtL xs≤1048576):Ret env drosslaw19_ArmstrongLeast_F xs (.lit (.bool true)) []:=by
 obtain ⟨x0,x1,h0,h1,e⟩:=drosslaw19_ArmstrongLeast_args (P:=env.P) tf hx
 rw [e] at hw ⊢
 have hlen:x0.L.length≤4000000:=by
  have h1:=wtLL_len (x0.L.map enc_drossref09_Dep)
  rw [List.length_map] at h1
  simp only [enc_drossref09_Deps,wtL,wt] at hw
  omega
 exact spec x0 x1 (u8_of h0.1) (fun x hx=>⟨u8_of (h0.2.2 x hx).1,u8_of (h0.2.2 x hx).2⟩) hlen (u8_of h1)
end drosslaw19_ArmstrongLeast
end Go.Own
