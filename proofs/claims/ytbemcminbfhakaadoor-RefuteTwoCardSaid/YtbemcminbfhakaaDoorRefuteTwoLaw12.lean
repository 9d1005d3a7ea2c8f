/- What the functions that the law reaches answer. No conditions. -/
import Derived.Test.YtbemcminbfhakaaDoorRefuteTwoLaw11
import Derived.Test.YtbemcminbfhakaaDoorOwn34
import Derived.Test.YtbemcminbfhakaaDoorRefuteTwoLaw9
import Derived.Test.YtbemcminbfhakaaDoorRefuteTwoLaw10
import Derived.Test.YtbemcminbfhakaaDoorRefuteTwoLaw4
set_option linter.all false
namespace Go.Own
def depL (n:Nat) (L:List drossref09_Dep):List api_FD:=L.map fun x=>{ Lhs:=((sN x.L &&& (2^n-1):Nat):Int),Rhs:=((sN x.R &&& (2^n-1):Nat):Int) }
def DepOK (L:List drossref09_Dep):Prop:=∀ x∈L,(0≤x.L∧x.L<256)∧0≤x.R∧x.R<256
theorem dep_and {x:Int} (h:0≤x∧x<256) {n:Nat} (hn:n≤16):bAnd .u32 (IntKind.wrap .u32 x) ((2^n-1:Nat):Int)=((sN x &&& (2^n-1):Nat):Int):=by
 have hp:=pow16 hn
 have e:x=((sN x:Nat):Int):=by unfold sN;omega
 have e2:IntKind.wrap .u32 x=((sN x:Nat):Int):=by
  conv=>lhs;rw [e]
  exact wrap_top (k:=.u32) (by simp only [top];unfold sN;omega)
 rw [e2]
 exact bAnd_nat (k:=.u32) (by simp only [top];unfold sN;omega) (by simp only [top];omega)
theorem and_pow {x n:Nat}:x &&& (2^n-1)<2^n:=by
 have:=Nat.and_le_right (n:=x) (m:=2^n-1)
 have:0<2^n:=Nat.pow_pos (by omega)
 omega
theorem drossref09_List.spec {n:Nat} {L:List drossref09_Dep} (hn:n≤16) (hL:DepOK L) (hlen:L.length≤4000000):drossref09_List.C n L (depL n L):=by
 obtain ⟨r,h1,h2⟩:=drossref09_List.enter n L (fun r=>r=depL n L) (by
  refine ⟨_,full_spec hn,?_⟩
  have:∀ (r:List drossref09_Dep) (k:Nat),L.drop k=r→k≤L.length→drossref09_List.L1 L ((2^n-1:Nat):Int) (depL n (L.take k)) k (fun r=>r=depL n L):=by
   intro r
   induction r with
   | nil=>
    intro k hd hk
    have:=drop_ge hd
    apply drossref09_List.L1_step
    rw [if_neg (by omega),List.take_of_length_le (by omega)]
   | cons x r ih=>
    intro k hd hk
    have hlt:=drop_lt hd
    have hx:=hL x (List.mem_of_getElem? (drop_get hd))
    have next:=ih (k+1) (drop_next hd) (by omega)
    rw [List.take_add_one,drop_get hd,Option.toList_some] at next
    unfold depL at next
    rw [List.map_append,List.map_cons,List.map_nil] at next
    apply drossref09_List.L1_step
    rw [if_pos (by omega)]
    refine ⟨x,lget_drop hd,?_⟩
    rw [dep_and hx.1 hn,dep_and hx.2 hn,wrap_succ (by omega)]
    exact ⟨by unfold depL;rw [List.length_map,List.length_take];omega,next⟩
  exact this L 0 rfl (Nat.zero_le _))
 rw [← h1];exact h2
theorem depL_ok {n:Nat} {L:List drossref09_Dep} (hn:n≤16):FdOK (depL n L):=fun d hd=>by
 obtain ⟨x,_,rfl⟩:=List.mem_map.1 hd
 have hp:=pow16 hn
 exact ⟨U32.of (Nat.lt_of_lt_of_le and_pow (by omega)),U32.of (Nat.lt_of_lt_of_le and_pow (by omega))⟩
theorem depL_len {n:Nat} {L:List drossref09_Dep}:(depL n L).length=L.length:=by simp [depL]
theorem depL_err {n:Nat} {L:List drossref09_Dep} (hn:n≤6) (hl:L.length≤6):errA (n:Int) (depL n L)=0:=by
 have h0:fdsE (n:Int) (depL n L)=0:=by
  unfold fdsE
  rw [if_neg (by omega),if_neg (by rw [depL_len];omega),if_pos]
  rw [List.all_eq_true]
  intro d hd
  obtain ⟨x,_,rfl⟩:=List.mem_map.1 hd
  unfold inU
  rw [sN_nat,sN_nat,Int.toNat_natCast,decide_eq_true and_pow,decide_eq_true and_pow];rfl
 unfold errA
 rw [if_pos h0,if_neg (by omega)]
end Go.Own
namespace Go.Own
theorem drosslaw20_sets.spec {n:Nat} {a b:Int} (hn:n≤16) (ha:0≤a∧a<256) (hb:0≤b∧b<256):drosslaw20_sets.C n (a,b) (((sN a &&& (2^n-1):Nat):Int),((sN b &&& (2^n-1):Nat):Int)):=by
 obtain ⟨r,h1,h2⟩:=drosslaw20_sets.enter n (a,b) (fun r=>r=(((sN a &&& (2^n-1):Nat):Int),((sN b &&& (2^n-1):Nat):Int))) ⟨_,full_spec hn,by
  dsimp only
  rw [dep_and ha hn,dep_and hb hn]⟩
 rw [← h1];exact h2
namespace drosslaw20_RefuteTwo
theorem again {φ:Bool→Prop} (h:φ true):L1 φ:=L1_step φ ⟨true,drosslaw20_awake.spec,h⟩
theorem spec (x:drossref03_Recipe) (L:List drossref09_Dep) (w:Int×Int) (hx:RecOK x) (hL:DepOK L) (h1:0≤w.1∧w.1<256) (h2:0≤w.2∧w.2<256):C x L w true:=by
 obtain ⟨r,h1,h2⟩:=enter x L w (fun r=>r=true) (by
  refine ⟨_,drossref03_Table.spec (most:=7) (by decide) hx,true,drosslaw20_awake.spec,?_⟩
  rw [if_pos rfl]
  unfold tabF
  by_cases h7:x.Rows.length≤7
  ·rw [if_pos h7,if_pos rfl]
   dsimp only
   have hm:(x.Attrs % 6).toNat≤5:=by omega
   generalize (x.Attrs % 6).toNat=n at *
   have hT:=wide_valid (n:=n) (by omega) hx (by omega)
   have hAt:=wide_attrs (x:=x) (n:=n) (by omega)
   rw [hAt]
   by_cases hn0:(n:Int)=0
   ·rw [if_pos hn0];exact again rfl
   ·rw [if_neg hn0]
    by_cases h6:6<(L.length:Int)
    ·rw [if_pos h6];exact again rfl
    ·rw [if_neg h6]
     have hok:=depL_ok (n:=n) (L:=L) (by omega)
     have hlen:(depL n L).length<1000000000:=by rw [depL_len];omega
     have h0:=depL_err (n:=n) (L:=L) (by omega) (by omega)
     have hfe:=(errA_n h0).2.2
     have hf:FdIn n (depL n L):=by
      have:=fdsE_in hfe
      rwa [Int.toNat_natCast] at this
     have hpos:0<n:=by omega
     have hpw:=pow16 (n:=n) (by omega)
     refine ⟨_,drossref09_List.spec (by omega) hL (by omega),_,drosslaw20_sets.spec (by omega) h1 h2,hn0,?_⟩
     have e1:IntKind.wrap .i64 w.2=w.2:=wrap_id (by omega) (by omega)
     have e2:Int.tmod w.2 (n:Int)=((w.2.toNat % n:Nat):Int):=by
      rw [Int.tmod_eq_emod_of_nonneg h2.1,Int.natCast_emod];congr 1;omega
     have hlt:w.2.toNat % n<n:=Nat.mod_lt _ hpos
     rw [e1,e2]
     dsimp only
     generalize w.2.toNat % n=b at *
     rw [shl_bit (by omega)]
     have ha2:sN w.1 &&& (2^n-1)<2^n:=and_pow
     generalize sN w.1 &&& (2^n-1)=a at *
     have hb2:2^b<2^n:=Nat.pow_lt_pow_right (by omega) hlt
     generalize depL n L=l at *
     refine ⟨by omega,_,drossref20_Right.spec hT hok hlen,?_⟩
     by_cases hr:rightB (wideT x n) l=true
     ·rw [if_pos hr]
      have ua:U32 ((a:Nat):Int):=U32.of (by omega)
      have ub:U32 ((2^b:Nat):Int):=U32.of (by omega)
      obtain ⟨q,hq1,hq2⟩:=drossref08_sat hT (d:=⟨((a:Nat):Int),((2^b:Nat):Int)⟩) ua ub
      refine ⟨q,hq1,?_⟩
      by_cases hq:q=true
      ·rw [if_pos hq]
      ·rw [if_neg hq]
       have hns:¬ SatP (wideT x n) a (2^b):=fun h=>hq (hq2.2 (by simpa only [sN_nat] using h))
       have hno:¬ subN (2^b) (cloN l a):=fun h=>hns (right_sat hT (by omega) hf (rightB_iff.1 hr) ha2 hb2 h)
       have he:errR (n:Int) l ⟨((a:Nat):Int),((2^b:Nat):Int)⟩=0:=by
        unfold errR
        rw [if_pos hfe,Int.toNat_natCast,if_pos (by
         unfold inU
         rw [Bool.and_eq_true,decide_eq_true_iff,decide_eq_true_iff,sN_nat,sN_nat]
         exact ⟨ha2,hb2⟩),if_neg (by rw [impB_iff,sN_nat,sN_nat];exact hno)]
       refine ⟨_,refute_FD.spec hok hlen ua ub,?_⟩
       rw [refF_err,he,if_pos rfl]
       have e:(refF (n:Int) l ⟨((a:Nat):Int),((2^b:Nat):Int)⟩).1=fdT n (lackN n l a):=by
        unfold refF;rw [if_pos he,Int.toNat_natCast]
        dsimp only
        rw [sN_nat]
       rw [e]
       have hT2:=fdT_TV (n:=n) (m:=lackN n l a) (by omega)
       refine ⟨_,drossref20_Right.spec hT2 hok hlen,?_⟩
       rw [if_pos (rightB_iff.2 (lack_right (by omega) hf ha2))]
       obtain ⟨q2,hq3,hq4⟩:=drossref08_sat hT2 (d:=⟨((a:Nat):Int),((2^b:Nat):Int)⟩) ua ub
       refine ⟨q2,hq3,?_⟩
       have:q2=false:=by
        cases q2 with
        | false=>rfl
        | true=>
         have:=hq4.1 rfl
         simp only [sN_nat] at this
         exact absurd this (lack_goal (by omega) ha2 hb2 hno)
       subst this;rfl
     ·rw [if_neg hr]
  ·rw [if_neg h7]
   exact again rfl)
 subst h1;exact h2
theorem law {xs:List D} (hx:TyAll env.P drosslaw20_RefuteTwo_K drosslaw20_RefuteTwo_T xs):Ret env drosslaw20_RefuteTwo_F xs (.lit (.bool true)) []:=
 drosslaw20_RefuteTwo_of (fun x0 x1 x2 h0 h1 h2=>spec x0 x1 x2 ⟨u8_of h0.1,u8_of h0.2.1,fun r hr c hc=>u8_of ((h0.2.2.2 r hr).2 c hc)⟩ (fun x hx=>⟨u8_of (h1.2 x hx).1,u8_of (h1.2 x hx).2⟩) (u8_of h2.1) (u8_of h2.2)) hx
end drosslaw20_RefuteTwo
end Go.Own
