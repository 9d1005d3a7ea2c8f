/- What the functions that the law reaches answer. No conditions. -/
import Derived.Test.YtbemcminbfhakabGreatDoorTractableCheckLaw11
import Derived.Test.YtbemcminbfhakabGreatDoorOwn34
import Derived.Test.YtbemcminbfhakabGreatDoorTractableCheckLaw6
import Derived.Test.YtbemcminbfhakabGreatDoorTractableCheckLaw9
import Derived.Test.YtbemcminbfhakabGreatDoorTractableCheckLaw3
set_option linter.all false
namespace Go.Own
def depL (n:Nat) (L:List drossref09_Dep):List api_FD:=L.map fun x=>{ Lhs:=((sN x.L &&& (2^n-1):Nat):Int),Rhs:=((sN x.R &&& (2^n-1):Nat):Int) }
def DepOK (L:List drossref09_Dep):Prop:=∀ x∈L,(0≤x.L∧x.L<256)∧0≤x.R∧x.R<256
theorem dep_and {x:Int} (h:0≤x∧x<256) {n:Nat} (hn:n≤16):bAnd .u32 (IntKind.wrap .u32 x) ((2^n-1:Nat):Int)=((sN x &&& (2^n-1):Nat):Int):=by
 have hp:=pow16 hn
 have e:x=((sN x:Nat):Int):=by unfold sN;omega
 have e2:IntKind.wrap .u32 x=((sN x:Nat):Int):=by
  conv=>lhs;rw [e]
  exact wrap_top (k:=.u32) (by simp only [top];unfold sN;omega)
 rw [e2]
 exact bAnd_nat (k:=.u32) (by simp only [top];unfold sN;omega) (by simp only [top];omega)
theorem and_pow {x n:Nat}:x &&& (2^n-1)<2^n:=by
 have:=Nat.and_le_right (n:=x) (m:=2^n-1)
 have:0<2^n:=Nat.pow_pos (by omega)
 omega
theorem drossref09_List.spec {n:Nat} {L:List drossref09_Dep} (hn:n≤16) (hL:DepOK L) (hlen:L.length≤4000000):drossref09_List.C n L (depL n L):=by
 obtain ⟨r,h1,h2⟩:=drossref09_List.enter n L (fun r=>r=depL n L) (by
  refine ⟨_,full_spec hn,?_⟩
  have:∀ (r:List drossref09_Dep) (k:Nat),L.drop k=r→k≤L.length→drossref09_List.L1 L ((2^n-1:Nat):Int) (depL n (L.take k)) k (fun r=>r=depL n L):=by
   intro r
   induction r with
   | nil=>
    intro k hd hk
    have:=drop_ge hd
    apply drossref09_List.L1_step
    rw [if_neg (by omega),List.take_of_length_le (by omega)]
   | cons x r ih=>
    intro k hd hk
    have hlt:=drop_lt hd
    have hx:=hL x (List.mem_of_getElem? (drop_get hd))
    have next:=ih (k+1) (drop_next hd) (by omega)
    rw [List.take_add_one,drop_get hd,Option.toList_some] at next
    unfold depL at next
    rw [List.map_append,List.map_cons,List.map_nil] at next
    apply drossref09_List.L1_step
    rw [if_pos (by omega)]
    refine ⟨x,lget_drop hd,?_⟩
    rw [dep_and hx.1 hn,dep_and hx.2 hn,wrap_succ (by omega)]
    exact ⟨by unfold depL;rw [List.length_map,List.length_take];omega,next⟩
  exact this L 0 rfl (Nat.zero_le _))
 rw [← h1];exact h2
def depN (N:Int):Nat:=(N % 7).toNat
theorem depN_lt {N:Int}:depN N≤6:=by unfold depN;omega
theorem drossref09_Of.spec {d:drossref09_Deps} (hN:0≤d.N∧d.N<256) (hL:DepOK d.L) (hlen:d.L.length≤4000000):drossref09_Of.C d (((depN d.N:Nat):Int),depL (depN d.N) d.L,decide ((d.L.length:Int)≤6)):=by
 obtain ⟨r,h1,h2⟩:=drossref09_Of.enter d (fun r=>r=(((depN d.N:Nat):Int),depL (depN d.N) d.L,decide ((d.L.length:Int)≤6))) (by
  have e:IntKind.wrap .i64 (Int.tmod d.N 7)=((depN d.N:Nat):Int):=by
   rw [Int.tmod_eq_emod_of_nonneg hN.1]
   have:d.N % 7=((depN d.N:Nat):Int):=by unfold depN;omega
   rw [this]
   exact wrap_top (k:=.i64) (by simp only [top];have:=depN_lt (N:=d.N);omega)
  rw [e]
  exact ⟨_,drossref09_List.spec (by have:=depN_lt (N:=d.N);omega) hL hlen,rfl⟩)
 rw [← h1];exact h2
theorem wtLL_len:∀ (es:List (List D)),es.length≤wtLL es
 | []=>Nat.le_refl _
 | x::r=>by simp only [wtLL,List.length_cons];have:=wtLL_len r;omega
theorem depL_ok {n:Nat} {L:List drossref09_Dep} (hn:n≤16):FdOK (depL n L):=fun d hd=>by
 obtain ⟨x,_,rfl⟩:=List.mem_map.1 hd
 have hp:=pow16 hn
 exact ⟨U32.of (Nat.lt_of_lt_of_le and_pow (by omega)),U32.of (Nat.lt_of_lt_of_le and_pow (by omega))⟩
theorem depL_len {n:Nat} {L:List drossref09_Dep}:(depL n L).length=L.length:=by simp [depL]
theorem depL_err {n:Nat} {L:List drossref09_Dep} (hn:n≤6) (hl:L.length≤6):errA (n:Int) (depL n L)=0:=by
 have h0:fdsE (n:Int) (depL n L)=0:=by
  unfold fdsE
  rw [if_neg (by omega),if_neg (by rw [depL_len];omega),if_pos]
  rw [List.all_eq_true]
  intro d hd
  obtain ⟨x,_,rfl⟩:=List.mem_map.1 hd
  unfold inU
  rw [sN_nat,sN_nat,Int.toNat_natCast,decide_eq_true and_pow,decide_eq_true and_pow];rfl
 unfold errA
 rw [if_pos h0,if_neg (by omega)]
end Go.Own
namespace Go.Own
def chkGo:List api_Step→List api_FD→Bool
 | [],l=>decide (l.length=0)
 | s::r,l=>if possF l s=true then chkGo r (clearF (cutF l (bOr .u32 s.First s.Second))) else false
def checkF (n:Int) (l:List api_FD) (x:List api_Step):Bool:=if fdsE n l=0 then chkGo x (clearF l) else false
def StepsOK (x:List api_Step):Prop:=∀ s∈x,StepOK s
theorem cut_len {l:List api_FD} {s:Int}:(cutF l s).length=l.length:=by unfold cutF;rw [List.length_map]
theorem len_zero {α:Type} {l:List α}:((l.length:Int) == 0)=decide (l.length=0):=by
 rw [Bool.eq_iff_iff,beq_iff_eq,decide_eq_true_eq];omega
theorem tractable_Check.loop {x:List api_Step} (hx:StepsOK x) (hn:x.length<1000000) {φ:Bool→Prop}:∀ (r:List api_Step) (k:Nat) (l:List api_FD),x.drop k=r→FdOK l→IsClr l→l.length<1000000→φ (chkGo r l)→tractable_Check.L1 x l k φ:=by
 intro r
 induction r with
 | nil=>
  intro k l hd hl hc hln h
  have:=drop_ge hd
  apply tractable_Check.L1_step
  rw [if_neg (by omega),len_zero]
  exact h
 | cons s r ih=>
  intro k l hd hl hc hln h
  have hlt:=drop_lt hd
  have hs:=hx s (List.mem_of_getElem? (drop_get hd))
  apply tractable_Check.L1_step
  rw [if_pos (by omega)]
  refine ⟨s,lget_drop hd,_,tractable_possible.spec hl hln hs,?_⟩
  rw [chkGo] at h
  by_cases hp:possF l s=true
  ·rw [if_pos hp]
   rw [if_pos hp] at h
   refine ⟨_,tractable_remove.spec hln,?_⟩
   rw [wrap_succ (by omega)]
   have ho:=cut_ok hl (or_int hs.1 hs.2)
   have h1:=clear_len ho
   rw [cut_len] at h1
   exact ih (k+1) _ (drop_next hd) (clear_ok ho) (clear_clr ho) (by omega) h
  ·rw [if_neg hp]
   rw [if_neg hp] at h
   exact h
theorem tractable_Check.spec {n:Int} {l:List api_FD} {x:List api_Step} (hl:FdOK l) (hln:l.length<1000000) (hx:StepsOK x) (hn:x.length<1000000):tractable_Check.C n l x (checkF n l x):=by
 have hcl:=clear_len hl
 obtain ⟨r,h1,h2⟩:=tractable_Check.enter n l x (fun r=>r=checkF n l x) (by
  refine ⟨_,closure_Valid.spec hl,?_⟩
  unfold checkF
  by_cases h0:fdsE n l=0
  ·rw [if_pos h0,if_pos h0]
   exact ⟨_,tractable_Clear.spec hln,tractable_Check.loop hx hn x 0 _ rfl (clear_ok hl) (clear_clr hl) (by omega) rfl⟩
  ·rw [if_neg h0,if_neg h0])
 rw [← h1];exact h2
theorem drossref42_Check.loop {x:List api_Step} (hx:StepsOK x) (hn:x.length<1000000) {φ:Bool→Prop}:∀ (r:List api_Step) (k:Nat) (l:List api_FD),x.drop k=r→FdOK l→IsClr l→l.length<1000000→φ (chkGo r l)→drossref42_Check.L1 x l k φ:=by
 intro r
 induction r with
 | nil=>
  intro k l hd hl hc hln h
  have:=drop_ge hd
  apply drossref42_Check.L1_step
  rw [if_neg (by omega),len_zero]
  exact h
 | cons s r ih=>
  intro k l hd hl hc hln h
  have hlt:=drop_lt hd
  have hs:=hx s (List.mem_of_getElem? (drop_get hd))
  apply drossref42_Check.L1_step
  rw [if_pos (by omega)]
  refine ⟨s,lget_drop hd,_,drossref42_Apply.spec hl hln hs,?_⟩
  rw [chkGo] at h
  unfold applyF
  rw [clear_id hc]
  by_cases hp:possF l s=true
  ·rw [if_pos hp,if_pos rfl]
   rw [if_pos hp] at h
   rw [wrap_succ (by omega)]
   have ho:=cut_ok hl (or_int hs.1 hs.2)
   have h1:=clear_len ho
   rw [cut_len] at h1
   exact ih (k+1) _ (drop_next hd) (clear_ok ho) (clear_clr ho) (Nat.lt_of_le_of_lt h1 hln) h
  ·rw [if_neg hp,if_neg (by decide)]
   rw [if_neg hp] at h
   exact h
theorem drossref42_Check.spec {n:Int} {l:List api_FD} {x:List api_Step} (hl:FdOK l) (hln:l.length<1000000) (hx:StepsOK x) (hn:x.length<1000000):drossref42_Check.C n l x (checkF n l x):=by
 have hcl:=clear_len hl
 obtain ⟨r,h1,h2⟩:=drossref42_Check.enter n l x (fun r=>r=checkF n l x) (by
  refine ⟨_,drossref09_Valid.spec hl,?_⟩
  unfold checkF
  by_cases h0:fdsE n l=0
  ·rw [if_pos h0,if_pos h0]
   exact ⟨_,drossref42_Clear.spec hln,drossref42_Check.loop hx hn x 0 _ rfl (clear_ok hl) (clear_clr hl) (by omega) rfl⟩
  ·rw [if_neg h0,if_neg h0])
 rw [← h1];exact h2
theorem chk_chain:∀ (k:Nat) {l:List api_FD},FdOK l→chkGo (chainK k l).1 l=decide ((chainK k l).2.length=0)∧StepsOK (chainK k l).1
 | 0,l,_=>⟨rfl,fun s hs=>by cases hs⟩
 | k+1,l,hl=>by
  rw [chainK]
  split
  ·rename_i hx
   obtain ⟨h1,h2⟩:=next_is hl hx
   obtain ⟨g1,g2⟩:=chk_chain k (stepL_ok hl hx).1
   refine ⟨?_,fun s hs=>?_⟩
   ·rw [chkGo,if_pos h1];exact g1
   ·rcases List.mem_cons.1 hs with rfl | hs
    ·exact h2
    ·exact g2 s hs
  ·exact ⟨rfl,fun s hs=>by cases hs⟩
namespace drosslaw42_TractableCheck
theorem again {φ:Bool→Prop} (h:φ true):L1 φ:=L1_step φ ⟨true,drosslaw42_awake.spec,h⟩
theorem spec (d:drossref09_Deps) (x:List api_Step) (hN:0≤d.N∧d.N<256) (hL:DepOK d.L) (hlen:d.L.length≤4000000) (hx:StepsOK x):C d x true:=by
 obtain ⟨r,h1,h2⟩:=enter d x (fun r=>r=true) (by
  refine ⟨_,drossref09_Of.spec hN hL hlen,true,drosslaw42_awake.spec,?_⟩
  rw [if_pos rfl]
  have hn6:=depN_lt (N:=d.N)
  generalize depN d.N=n at *
  by_cases h6:(d.L.length:Int)≤6
  ·rw [if_pos (decide_eq_true h6)]
   by_cases h8:8<(x.length:Int)
   ·rw [if_pos h8];exact again rfl
   ·rw [if_neg h8]
    have hok:=depL_ok (n:=n) (L:=d.L) (by omega)
    have hll:(depL n d.L).length<1000000:=by rw [depL_len];omega
    have h0:fdsE (n:Int) (depL n d.L)=0:=(errA_n (depL_err (n:=n) (L:=d.L) hn6 (by omega))).2.2
    refine ⟨_,tractable_Chain.spec hok hll,?_⟩
    have e:chainF (n:Int) (depL n d.L)=((chainK 40 (clearF (depL n d.L))).1,(chainK 40 (clearF (depL n d.L))).2,0):=by unfold chainF;rw [if_pos h0]
    rw [e,if_pos rfl]
    obtain ⟨g1,g2⟩:=chk_chain 40 (clear_ok hok)
    obtain ⟨g3,_,_⟩:=chainK_len 40 (clear_ok hok)
    refine ⟨_,tractable_Check.spec hok hll g2 (by show (chainK 40 (clearF (depL n d.L))).1.length<_;omega),?_⟩
    rw [if_pos (by unfold checkF;rw [if_pos h0,len_zero];exact g1)]
    exact ⟨_,tractable_Check.spec hok hll hx (by omega),_,drossref42_Check.spec hok hll hx (by omega),by simp⟩
  ·rw [if_neg (by simpa using h6)]
   exact again rfl)
 subst h1;exact h2
theorem law {xs:List D} (hx:TyAll env.P drosslaw42_TractableCheck_K drosslaw42_TractableCheck_T xs) (hw:wtL xs≤1048576):Ret env drosslaw42_TractableCheck_F xs (.lit (.bool true)) []:=by
 obtain ⟨x0,x1,h0,h1,e⟩:=drosslaw42_TractableCheck_args (P:=env.P) tf hx
 rw [e] at hw ⊢
 have hlen:x0.L.length≤4000000:=by
  have h1:=wtLL_len (x0.L.map enc_drossref09_Dep)
  rw [List.length_map] at h1
  simp only [enc_drossref09_Deps,wtL,wt] at hw
  omega
 exact spec x0 x1 (u8_of h0.1) (fun x hx=>⟨u8_of (h0.2.2 x hx).1,u8_of (h0.2.2 x hx).2⟩) hlen (fun s hs=>⟨u32_of (h1.2 s hs).2.1,u32_of (h1.2 s hs).2.2⟩)
end drosslaw42_TractableCheck
end Go.Own
