/- An interpreter of function bodies, sound. No conditions. -/
import Derived.Laws.BitsAllLaws
import Derived.Test.YtcbhcnkfefbddaaGreatDoorOwn17
import Derived.Test.YtcbhcnkfefbddaaGreatDoorOwn7
set_option linter.all false
open Nat renaming testBit_two_pow_mul->aA,testBit_lt_two_pow->aM,eq_of_testBit_eq->aQ,pow_le_pow_right->a6,lt_or_ge->ba,lt_of_lt_of_le->bo,testBit_succ->bB

namespace Go.aS
open D
theorem Q4(x:Nat):∀(n k:Nat),(∀i,i<k->x.testBit i=false)->(∃i,i<k+n/\x.testBit i=true)->x.testBit (kN x n k)=true/\kN x n k<k+n/\∀i,i<kN x n k->x.testBit i=false
 |0,k,h,⟨i,hi,U⟩=>by rw[h i (by omega)]at U;cases U
 |n+1,k,h,⟨i,hi,U⟩=>by
  unfold kN
  split
  .rename_i aj;exact⟨aj,by omega,h⟩
  .rename_i aj;have:=Q4 x n (k+1) (λj aH=>by
    rcases ba j k with da|da
    .exact h j da
    .obtain rfl:j=k:=by omega
     simpa using aj) ⟨i,by omega,U⟩
   exact⟨this.1,by omega,this.2.2⟩
theorem Q5:∀(n k:Nat),kN 0 n k=k+n
 |0,k=>rfl
 |n+1,k=>by simp[kN,Q5 n (k+1)];omega
theorem acu{x k:Nat}(I:x.testBit k=true)(aa:∀i,i<k->x.testBit i=false):∃m,x=2^k*(2*m+1):=by
 have hm:x%2^k=0:=by
  apply aQ;intro i;rw[Nat.testBit_mod_two_pow,Nat.zero_testBit];by_cases hi:i<k
  .simp [hi,aa i hi]
  .simp [hi]
 obtain⟨q,rfl⟩:=Nat.dvd_of_mod_eq_zero hm;rw[aA]at I;simp only[ge_iff_le,Nat.le_refl,decide_true,Nat.sub_self,Bool.true_and,Nat.testBit_zero,decide_eq_true_eq]at I;exact⟨q / 2,by rw[show 2*(q / 2)+1=q by omega]⟩
theorem agH{x k:Nat}(U:x<2^32)(I:x.testBit k=true)(aa:∀i,i<k->x.testBit i=false):x &&& (2^32-x)=2^k:=by
 obtain⟨m,hm⟩:=acu I aa;have N_:0<2^k:=Nat.two_pow_pos k;have akg:0<x:=by rw[hm];exact Nat.mul_pos N_ (by omega)
 apply aQ;intro i;have e:2^32-x=2^32-((x-1)+1):=by omega
 rw[Nat.testBit_and,e,Nat.testBit_two_pow_sub_succ (by omega),Nat.testBit_two_pow];have af:x-1=2^k*(2*m)+(2^k-1):=by
  rw[hm,Nat.mul_add,Nat.mul_one];omega
 rw[af,Nat.testBit_two_pow_mul_add _ (by omega)];by_cases A5:i<k
 .simp [A5,aa i A5];omega
 .have ze:x.testBit i=(2*m+1).testBit (i-k):=by
   rw[hm,aA];simp;omega
  rw[ze];simp only[A5,if_false];rcases Nat.eq_or_lt_of_le (Nat.le_of_not_lt A5)with h|h
  .subst h;have ai6:k<32:=by
    rcases ba k 32 with da|da
    .exact da
    .rw [aM (bo U (a6 (by omega) da))]at I;cases I
   simp[ai6]
  .obtain ⟨j,aH⟩:∃j,i-k=j+1:=⟨i-k-1,by omega⟩
   rw[aH,bB,bB,show(2*m+1) / 2=m by omega,show 2*m / 2=m by omega];have:¬k=i:=by omega
   simp[this];exact λh _=>h
theorem ac1{x k:Nat}(U:x<4294967296)(I:x.testBit k=true)(aa:∀i,i<k->x.testBit i=false):x &&& (4294967296-x)=2^k:=agH (by simpa using U) I aa
def zE:List Nat:=[0,1,28,2,29,14,24,3,30,22,20,15,25,17,4,8,31,27,13,23,21,19,16,7,26,12,18,6,11,5,10,9]
theorem aaB:∀k,k<32->zE[2^k*125613361%4294967296 / 134217728]?=some k:=by decide +kernel
def Ha(g:Nat)(M:Nat->Option Obj):Prop:=∃(cs:Array Value)(e:TypeId)(fr:Nat×Nat),M g=some (.cells cs e fr)/\∀(i x:Nat),zE[i]?=some x->cs[i]?=some (Value.int .u8 (x:Int))
def Ud(P:Program)(f:Nat):Prop:=∀w,Calls P f #[.int .u32 0] w λe w'=>e=.returned (.int .i64 32)/\w'=w
def Uc(P:Program)(f g:Nat):Prop:=∀(n:Int),0<n->n<4294967296->∀(k:Nat),k<32->∀(w:World),
 w.cell? ⟨g,(bits .and .u32 n (-n%4294967296)*125613361%4294967296 / 134217728).toNat,none⟩=some (.int .u8 (k:Int)) ->
 Calls P f #[.int .u32 n] w λe w'=>e=.returned (.int .i64 (k:Int))/\w'=w
theorem ZM(y:Nat):((y:Int)*125613361%4294967296 / 134217728).toNat=y*125613361%4294967296 / 134217728:=by
 rw[show(y:Int)*125613361%4294967296=((y*125613361%4294967296:Nat):Int) by rw[Int.natCast_emod,Int.natCast_mul];simp only[Int.cast_ofNat_Int]];generalize y*125613361%4294967296=z;omega
theorem adZ{x:Nat}(aO:0<x)(U:x<4294967296):(-(x:Int)%4294967296)=((4294967296-x:Nat):Int):=by omega
theorem ada{w:World}{g q:Nat}{cs:Array Value}{e:TypeId}{fr:Nat×Nat}{v:Value}(h:w.heap[g]?=some (.cells cs e fr))(k:cs[q]?=some v):w.cell? ⟨g,q,none⟩=some v:=by
 simp[World.cell?,h,k]
theorem aaC{P:Program}{f g:Nat}(aG:Ud P f)(ae:Uc P f g){M:Mem}(bW:Ha g M){w:World}(eE:fE M w){n:Int}(aO:0<=n)(I:n<4294967296):
  Calls P f #[.int .u32 n] w λe w'=>e=.returned (.int .i64 (kN n.toNat 32 0:Nat))/\w'=w:=by
 obtain⟨x,rfl⟩:=Int.eq_ofNat_of_zero_le aO;rw[Int.toNat_natCast];have U:x<4294967296:=by omega
 rcases Nat.eq_zero_or_pos x with rfl|af
 .rw [Q5];exact aG w
 .obtain ⟨i,hi⟩:=Nat.exists_testBit_of_ne_zero (Nat.ne_of_gt af);have aml:i<32:=by
   rcases ba i 32 with da|da
   .exact da
   .rw [aM (bo (show x<2^32 from U) (a6 (by decide) da))]at hi;cases hi
  obtain⟨a2,bA,a3⟩:=Q4 x 32 0 (by simp) ⟨i,by omega,hi⟩;generalize kN x 32 0=k at a2 bA a3;have hand:=ac1 U a2 a3;refine ae x (by omega) I k (by omega) w ?_;rw[adZ af U,u32_and_nat x (4294967296-x) (by omega) (by omega),hand,ZM];obtain⟨cs,e,fr,bW,ku⟩:=bW;have rN:=eE g _ bW;have:=ku _ _ (aaB k (by omega));exact(ada (w:=w) (fr:=fr) rN this)
theorem Z1{E:Env}{f g:Nat}(oN:E.mode f 0≠.eF)(gA:∀args w,(callFunc f args).run E.P w=.ok (.enter f args) w)(aG:Ud E.P f)(ae:Uc E.P f g)(aiT:∀M,E.H2 M->Ha g M)
  {az:List D} {r:D} {outs:List D} (h:CO az=some (r,outs)):sO E f az r outs:=by
 unfold CO at h
 split at h
 .rename_i n
  split at h
  .rename_i ao;simp only[aE,Prod.mk.injEq]at h;obtain⟨rfl,rfl⟩:=h;intro M w ts e3 qP Eo dI eE ef;rcases ts with _|⟨t1,_|⟨t2,rs⟩⟩
   case nil=>simp at e3
   case cons.cons=>simp at e3
   .simp only[List.map_cons,List.map_nil,List.cons.injEq,and_true]at e3;obtain⟨d,v,rfl,rfl,rfl⟩:∃d v,t1=.leaf d v/\d=.lit (.int .u32 n)/\v=.int .u32 n:=by
     have ak:=(qP t1 (by simp)).2;cases t1 with
     |leaf d v=>
      simp only[T.erase]at e3;subst e3;have ak:bu M (.lit (.int .u32 n)) v:=ak;simp only[bu]at ak;exact⟨_,_,rfl,rfl,ak.1⟩
     |_=>simp[T.erase]at e3
    have y2:ht E f 0 [T.leaf (.lit (.int .u32 n)) (.int .u32 n)]=[]:=by simp[ht,oN]
    rw[y2];unfold oA;rw[gA];have walk:=aaC aG ae (aiT M (ef M (Mem.le_refl M))) eE ao.1 ao.2;refine Calls.mono walk ?_;rintro e w' ⟨rfl,rfl⟩;refine⟨M,.leaf (.lit (.int .i64 (kN n.toNat 32 0:Nat))) (.int .i64 (kN n.toNat 32 0:Nat)),[],rfl,rfl,trivial,⟨rfl,rfl⟩,rfl,by simp,rfl,?_,eE,?_⟩
    .exact dT.nil _ _
    .exact cN.mf _ _ (by simp[T.blocks,T.bq,keys])
  .cases h
 .cases h
end Go.aS
