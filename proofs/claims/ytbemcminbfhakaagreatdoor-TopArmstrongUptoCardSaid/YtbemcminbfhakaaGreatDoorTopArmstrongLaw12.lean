/- What the functions that the law reaches answer. No conditions. -/
import Derived.Test.YtbemcminbfhakaaGreatDoorTopArmstrongLaw11
import Derived.Test.YtbemcminbfhakaaGreatDoorOwn34
import Derived.Test.YtbemcminbfhakaaGreatDoorTopArmstrongLaw6
import Derived.Test.YtbemcminbfhakaaGreatDoorTopArmstrongLaw9
import Derived.Test.YtbemcminbfhakaaGreatDoorTopArmstrongLaw3
set_option linter.all false
namespace Go.Own
def depL (n:Nat) (L:List drossref09_Dep):List api_FD:=L.map fun x=>{ Lhs:=((sN x.L &&& (2^n-1):Nat):Int),Rhs:=((sN x.R &&& (2^n-1):Nat):Int) }
def DepOK (L:List drossref09_Dep):Prop:=∀ x∈L,(0≤x.L∧x.L<256)∧0≤x.R∧x.R<256
theorem dep_and {x:Int} (h:0≤x∧x<256) {n:Nat} (hn:n≤16):bAnd .u32 (IntKind.wrap .u32 x) ((2^n-1:Nat):Int)=((sN x &&& (2^n-1):Nat):Int):=by
 have hp:=pow16 hn
 have e:x=((sN x:Nat):Int):=by unfold sN;omega
 have e2:IntKind.wrap .u32 x=((sN x:Nat):Int):=by
  conv=>lhs;rw [e]
  exact wrap_top (k:=.u32) (by simp only [top];unfold sN;omega)
 rw [e2]
 exact bAnd_nat (k:=.u32) (by simp only [top];unfold sN;omega) (by simp only [top];omega)
theorem and_pow {x n:Nat}:x &&& (2^n-1)<2^n:=by
 have:=Nat.and_le_right (n:=x) (m:=2^n-1)
 have:0<2^n:=Nat.pow_pos (by omega)
 omega
theorem drossref09_List.spec {n:Nat} {L:List drossref09_Dep} (hn:n≤16) (hL:DepOK L) (hlen:L.length≤4000000):drossref09_List.C n L (depL n L):=by
 obtain ⟨r,h1,h2⟩:=drossref09_List.enter n L (fun r=>r=depL n L) (by
  refine ⟨_,full_spec hn,?_⟩
  have:∀ (r:List drossref09_Dep) (k:Nat),L.drop k=r→k≤L.length→drossref09_List.L1 L ((2^n-1:Nat):Int) (depL n (L.take k)) k (fun r=>r=depL n L):=by
   intro r
   induction r with
   | nil=>
    intro k hd hk
    have:=drop_ge hd
    apply drossref09_List.L1_step
    rw [if_neg (by omega),List.take_of_length_le (by omega)]
   | cons x r ih=>
    intro k hd hk
    have hlt:=drop_lt hd
    have hx:=hL x (List.mem_of_getElem? (drop_get hd))
    have next:=ih (k+1) (drop_next hd) (by omega)
    rw [List.take_add_one,drop_get hd,Option.toList_some] at next
    unfold depL at next
    rw [List.map_append,List.map_cons,List.map_nil] at next
    apply drossref09_List.L1_step
    rw [if_pos (by omega)]
    refine ⟨x,lget_drop hd,?_⟩
    rw [dep_and hx.1 hn,dep_and hx.2 hn,wrap_succ (by omega)]
    exact ⟨by unfold depL;rw [List.length_map,List.length_take];omega,next⟩
  exact this L 0 rfl (Nat.zero_le _))
 rw [← h1];exact h2
def depN (N:Int):Nat:=(N % 7).toNat
theorem depN_lt {N:Int}:depN N≤6:=by unfold depN;omega
theorem drossref09_Of.spec {d:drossref09_Deps} (hN:0≤d.N∧d.N<256) (hL:DepOK d.L) (hlen:d.L.length≤4000000):drossref09_Of.C d (((depN d.N:Nat):Int),depL (depN d.N) d.L,decide ((d.L.length:Int)≤6)):=by
 obtain ⟨r,h1,h2⟩:=drossref09_Of.enter d (fun r=>r=(((depN d.N:Nat):Int),depL (depN d.N) d.L,decide ((d.L.length:Int)≤6))) (by
  have e:IntKind.wrap .i64 (Int.tmod d.N 7)=((depN d.N:Nat):Int):=by
   rw [Int.tmod_eq_emod_of_nonneg hN.1]
   have:d.N % 7=((depN d.N:Nat):Int):=by unfold depN;omega
   rw [this]
   exact wrap_top (k:=.i64) (by simp only [top];have:=depN_lt (N:=d.N);omega)
  rw [e]
  exact ⟨_,drossref09_List.spec (by have:=depN_lt (N:=d.N);omega) hL hlen,rfl⟩)
 rw [← h1];exact h2
theorem wtLL_len:∀ (es:List (List D)),es.length≤wtLL es
 | []=>Nat.le_refl _
 | x::r=>by simp only [wtLL,List.length_cons];have:=wtLL_len r;omega
theorem depL_ok {n:Nat} {L:List drossref09_Dep} (hn:n≤16):FdOK (depL n L):=fun d hd=>by
 obtain ⟨x,_,rfl⟩:=List.mem_map.1 hd
 have hp:=pow16 hn
 exact ⟨U32.of (Nat.lt_of_lt_of_le and_pow (by omega)),U32.of (Nat.lt_of_lt_of_le and_pow (by omega))⟩
theorem depL_len {n:Nat} {L:List drossref09_Dep}:(depL n L).length=L.length:=by simp [depL]
theorem depL_err {n:Nat} {L:List drossref09_Dep} (hn:n≤6) (hl:L.length≤6):errA (n:Int) (depL n L)=0:=by
 have h0:fdsE (n:Int) (depL n L)=0:=by
  unfold fdsE
  rw [if_neg (by omega),if_neg (by rw [depL_len];omega),if_pos]
  rw [List.all_eq_true]
  intro d hd
  obtain ⟨x,_,rfl⟩:=List.mem_map.1 hd
  unfold inU
  rw [sN_nat,sN_nat,Int.toNat_natCast,decide_eq_true and_pow,decide_eq_true and_pow];rfl
 unfold errA
 rw [if_pos h0,if_neg (by omega)]
end Go.Own
namespace Go.Own
theorem name1 {b:UInt8} (h:(letB (u8i b)&&true)=true):nameF ⟨#[b]⟩=true:=by
 unfold nameF
 have e:(⟨#[b]⟩:ByteArray).toList=[b]:=bl_mk (l:=[b])
 rw [e]
 simp only [nameL,List.length_nil,List.all_nil,Bool.and_true] at h ⊢
 rw [h]
 have:decide ([b]=nullB)=false:=decide_eq_false (by unfold nullB;simp)
 rw [this];rfl
theorem namesGo_ok:∀ (r pre:List ByteArray),(∀ x∈r,nameF x=true)→(pre++r).Nodup→namesGo pre r=true
 | [],_,_,_=>rfl
 | a::r,pre,hn,hd=>by
  rw [namesGo,hn a (by simp),namesGo_ok r (pre++[a]) (fun x hx=>hn x (by simp [hx])) (by rw [List.append_assoc];exact hd)]
  have:pre.any (eqS a)=false:=by
   rw [List.any_eq_false]
   intro x hx
   unfold eqS
   rw [decide_eq_true_iff]
   intro he
   subst he
   rw [List.nodup_append] at hd
   exact hd.2.2 x hx x (by simp) rfl
  rw [this];rfl
theorem abc_names {m:Nat}:namesF (abcL.take m)=true:=by
 unfold namesF
 refine namesGo_ok _ [] (fun x hx=>?_) ?_
 ·have hx:=List.mem_of_mem_take hx
  unfold abcL at hx
  simp only [List.mem_cons,List.not_mem_nil,or_false] at hx
  rcases hx with rfl | rfl | rfl | rfl | rfl | rfl | rfl | rfl | rfl | rfl<;>exact name1 (by decide)
 ·rw [List.nil_append]
  have:abcL.Nodup:=by decide +kernel
  exact this.sublist (List.take_sublist _ _)
theorem armV_valid {n k m:Nat}:validsF (armV n k m)=true:=by
 unfold validsF
 rw [List.all_eq_true]
 intro v hv
 obtain ⟨i,_,rfl⟩:=List.mem_map.1 hv
 unfold validV
 rw [decide_eq_true_iff]
 exact .inr (.inl ⟨rfl,bl_nil⟩)
theorem rowsF_arm {n:Nat}:∀ {ms:List Nat} {k:Nat} {last:Int},last≤(k:Int)→rowsF n last (armRows n k ms)=0
 | [],_,_,_=>rfl
 | m::r,k,last,h=>by
  rw [armRows,rowsF,if_neg (by show ¬ (((k+1:Nat):Int)≤last);omega),if_pos (show (armRow n k m).Values.length=n from armV_len),if_pos (show validsF (armRow n k m).Values=true from armV_valid)]
  exact rowsF_arm (Int.le_refl _)
theorem armMs_small {n:Nat} {l:List api_FD} (hn:n≤6):(armMs n l).length≤65:=by
 unfold armMs
 rw [List.length_cons,List.length_map]
 have h1:(irrL n (closedL n l)).length≤(closedL n l).length:=List.length_filter_le _ _
 have h2:(closedL n l).length≤2^n:=by
  unfold closedL
  refine Nat.le_trans (List.length_filter_le _ _) ?_
  rw [subs_len (by omega)];exact Nat.le_refl _
 have h3:2^n≤2^6:=Nat.pow_le_pow_right (n:=2) (by omega) hn
 omega
theorem arm_TV {n:Nat} {l:List api_FD} (hn:n≤6):TV (armT n l) where
 name:=name1 (by decide)
 na:=by show (abcL.take n).length≤16;rw [List.length_take];omega
 nr:=by show (armRows n 0 (armMs n l)).length≤1000;rw [armRows_len];have:=armMs_small (l:=l) hn;omega
 names:=abc_names
 rows:=by
  have e:(armT n l).Attrs.length=n:=by
   show (abcL.take n).length=n
   rw [List.length_take];have:abcL.length=10:=rfl
   omega
  rw [e];exact rowsF_arm (Int.le_refl _)
theorem arm_attrs {n:Nat} {l:List api_FD} (hn:n≤6):(armT n l).Attrs.length=n:=by
 show (abcL.take n).length=n
 rw [List.length_take];have:abcL.length=10:=rfl
 omega
theorem armRows_num {n:Nat}:∀ {ms:List Nat} {k:Nat},k+ms.length≤100000→∀ r∈armRows n k ms,∀ v∈r.Values,NumOK v
 | [],_,_,r,hr=>by cases hr
 | m::ms,k,hk,r,hr=>by
  rw [List.length_cons] at hk
  rcases List.mem_cons.1 hr with rfl | hr
  ·intro v hv
   obtain ⟨i,_,rfl⟩:=List.mem_map.1 hv
   unfold NumOK
   simp only
   split<;>omega
  ·exact armRows_num (by omega) r hr
theorem arm_num {n:Nat} {l:List api_FD} (hn:n≤6):TNum (armT n l):=armRows_num (by have:=armMs_small (l:=l) hn;omega)
end Go.Own
namespace Go.Own
namespace drosstop_TopArmstrong
theorem again {φ:Bool→Prop} (h:φ true):L2 φ:=L2_step φ ⟨true,drosstop_awake20.spec,h⟩
theorem spec (d:drossref09_Deps) (g:drossref09_Dep) (hN:0≤d.N∧d.N<256) (hL:DepOK d.L) (hlen:d.L.length≤4000000) (hg:DepOK [g]):C d g true:=by
 obtain ⟨r,h1,h2⟩:=enter d g (fun r=>r=true) (by
  refine ⟨_,drossref09_Of.spec hN hL hlen,true,drosstop_awake20.spec,?_⟩
  rw [if_pos rfl]
  have hn6:=depN_lt (N:=d.N)
  generalize depN d.N=n at *
  by_cases h6:(d.L.length:Int)≤6
  ·rw [if_pos (decide_eq_true h6)]
   have hok:=depL_ok (n:=n) (L:=d.L) (by omega)
   have hlen:(depL n d.L).length<1000000000:=by rw [depL_len];omega
   have h0:=depL_err (n:=n) (L:=d.L) hn6 (by omega)
   have hfe:=(errA_n h0).2.2
   have hf:FdIn n (depL n d.L):=by
    have:=fdsE_in hfe
    rwa [Int.toNat_natCast] at this
   generalize depL n d.L=l at *
   have hpw:=pow16 (n:=n) (by omega)
   have ha:sN g.L &&& (2^n-1)<2^n:=and_pow
   have hb:sN g.R &&& (2^n-1)<2^n:=and_pow
   refine ⟨_,drossref09_List.spec (by omega) hg (by simp),({ Lhs:=((sN g.L &&& (2^n-1):Nat):Int),Rhs:=((sN g.R &&& (2^n-1):Nat):Int) }:api_FD),rfl,?_⟩
   generalize sN g.L &&& (2^n-1)=a at *
   generalize sN g.R &&& (2^n-1)=b at *
   have eI:irrF (n:Int) l=(irrL n (closedL n l),0):=by unfold irrF;rw [if_pos h0,Int.toNat_natCast]
   have eA:armF (n:Int) l=(armT n l,0):=by unfold armF;rw [eI];simp
   have cB:=armstrong_Build.spec (n:=(n:Int)) hok hlen
   rw [eA] at cB
   have cI:=armstrong_Irreducible.spec (n:=(n:Int)) hok hlen
   rw [eI] at cI
   refine ⟨_,cB,?_⟩
   rw [if_pos rfl]
   have hTV:=arm_TV (l:=l) hn6
   obtain ⟨q,cH,e1,e2⟩:=partition_Holds.spec (t:=armT n l) (fd:=⟨(a:Int),(b:Int)⟩) (l:=a) (r:=b) (arm_num hn6) rfl rfl (by omega) (by omega)
   obtain ⟨anti,cA,al,am⟩:=keys_Anti.spec (n:=n) (l:=l) (by omega) hok hlen hfe
   refine ⟨q,cH,_,cA,_,cI,?_⟩
   have hE:holdsE (armT n l) a b=0:=by
    unfold holdsE
    rw [if_pos (tableF_iff.2 hTV),arm_attrs hn6,if_pos (Nat.or_lt_two_pow ha hb)]
   rw [if_pos (by rw [e1];exact hE),if_pos rfl,if_pos rfl]
   refine ⟨_,closure_Implies.spec hok hlen (d:=⟨(a:Int),(b:Int)⟩) (U32.of (by omega)) (U32.of (by omega)),?_⟩
   rw [if_pos (by
    rw [Bool.eq_iff_iff,e2,impB_iff,sN_nat,sN_nat,arm_sat (by omega) hf hTV rfl ha hb]
    exact ⟨fun h=>h.2,fun h=>⟨hE,h⟩⟩)]
   have hsm:=armMs_small (l:=l) hn6
   have hrows:(armT n l).Rows.length=(irrL n (closedL n l)).length+1:=by
    have e:(armT n l).Rows.length=(armMs n l).length:=armRows_len
    rw [e];unfold armMs;simp
   have hms:(armMs n l).length=(irrL n (closedL n l)).length+1:=by unfold armMs;simp
   rw [if_pos (show ((armT n l).Rows.length:Int)=IntKind.wrap .i64 (((irrL n (closedL n l)).length:Int)+1) from by rw [wrap_succ (by omega),hrows])]
   have go:∀ (r:List Int) (k:Nat),anti.drop k=r→L1 ((n:Int),l,decide ((d.L.length:Int)≤6)) (anti,0) (irrL n (closedL n l),0) (k:Int) (fun r=>r=true):=by
    intro r
    induction r with
    | nil=>intro k hd;have:=drop_ge hd;apply L1_step;rw [if_neg (by show ¬ (k:Int)<(anti.length:Int);omega)]
    | cons y r ih=>
     intro k hd
     have hlt:=drop_lt hd
     obtain ⟨s,rfl,hs⟩:=am y (List.mem_of_getElem? (drop_get hd))
     obtain ⟨c1,c2⟩:=anti_irr (by omega) hf hs
     apply L1_step
     rw [if_pos (by show (k:Int)<(anti.length:Int);omega)]
     refine ⟨(s:Int),lget_drop hd,_,closure_Close.spec hok hlen (show s<2^32 from Nat.lt_of_lt_of_le hs.1 (by omega)),?_⟩
     rw [if_pos (by rw [c1])]
     refine ⟨_,mem_contains (by show (irrL n (closedL n l)).length<_;omega),?_⟩
     rw [if_pos (decide_eq_true ((irr_mem (by omega)).2 ⟨s,rfl,c2⟩)),wrap_succ (by omega)]
     exact ih (k+1) (drop_next hd)
   exact go anti 0 rfl
  ·rw [if_neg (by simpa using h6)]
   exact again rfl)
 subst h1;exact h2
theorem law {xs:List D} (hx:TyAll env.P drosstop_TopArmstrong_K drosstop_TopArmstrong_T xs) (hw:wtL xs≤1048576):Ret env drosstop_TopArmstrong_F xs (.lit (.bool true)) []:=by
 obtain ⟨x0,x1,h0,h1,e⟩:=drosstop_TopArmstrong_args (P:=env.P) tf hx
 rw [e] at hw ⊢
 have hlen:x0.L.length≤4000000:=by
  have h1:=wtLL_len (x0.L.map enc_drossref09_Dep)
  rw [List.length_map] at h1
  simp only [enc_drossref09_Deps,wtL,wt] at hw
  omega
 exact spec x0 x1 (u8_of h0.1) (fun x hx=>⟨u8_of (h0.2.2 x hx).1,u8_of (h0.2.2 x hx).2⟩) hlen (fun x hx=>by rw [List.mem_singleton.1 hx];exact ⟨u8_of h1.1,u8_of h1.2⟩)
end drosstop_TopArmstrong
end Go.Own
