/- An interpreter of function bodies, sound. No conditions. -/
import Derived.Laws.BitsAllLaws
import Derived.Test.YtockohmmmlhhfabGreatDoorOwn18
import Derived.Test.YtockohmmmlhhfabGreatDoorOwn7
set_option linter.all false

namespace Go.Own
open D
theorem Aod (x:Nat):∀ (n k:Nat),(∀ i,i<k->x.testBit i=false)->(∃ i,i<k+n/\x.testBit i=true)->x.testBit (Aei x n k)=true/\Aei x n k<k+n/\∀ i,i<Aei x n k->x.testBit i=false
 | 0,k,h,⟨i,hi,hx⟩=>by rw [h i (by omega)] at hx;cases hx
 | n+1,k,h,⟨i,hi,hx⟩=>by
  unfold Aei
  split
  ·rename_i hk;exact ⟨hk,by omega,h⟩
  ·rename_i hk;have:=Aod x n (k+1) (fun j hj=>by
    rcases Nat.lt_or_ge j k with h' | h'
    ·exact h j h'
    ·obtain rfl:j=k:=by omega
     simpa using hk) ⟨i,by omega,hx⟩
   exact ⟨this.1,by omega,this.2.2⟩
theorem Aoe:∀ (n k:Nat),Aei 0 n k=k+n
 | 0,k=>rfl
 | n+1,k=>by simp [Aei,Aoe n (k+1)];omega
theorem Bb4 {x k:Nat} (h1:x.testBit k=true) (h2:∀ i,i<k->x.testBit i=false):∃ m,x=2^k*(2*m+1):=by
 have hm:x % 2^k=0:=by
  apply Nat.eq_of_testBit_eq;intro i;rw [Nat.testBit_mod_two_pow,Nat.zero_testBit];by_cases hi:i<k
  ·simp [hi,h2 i hi]
  ·simp [hi]
 obtain ⟨q,rfl⟩:=Nat.dvd_of_mod_eq_zero hm;rw [Nat.testBit_two_pow_mul] at h1;simp only [ge_iff_le,Nat.le_refl,decide_true,Nat.sub_self,Bool.true_and,Nat.testBit_zero,decide_eq_true_eq] at h1;exact ⟨q / 2,by rw [show 2*(q / 2)+1=q by omega]⟩
theorem and_neg' {x k:Nat} (hx:x<2^32) (h1:x.testBit k=true) (h2:∀ i,i<k->x.testBit i=false):x &&& (2^32-x)=2^k:=by
 obtain ⟨m,hm⟩:=Bb4 h1 h2;have hpos:0<2^k:=Nat.two_pow_pos k;have hx0:0<x:=by rw [hm];exact Nat.mul_pos hpos (by omega)
 apply Nat.eq_of_testBit_eq;intro i;have e:2^32-x=2^32-((x-1)+1):=by omega
 rw [Nat.testBit_and,e,Nat.testBit_two_pow_sub_succ (by omega),Nat.testBit_two_pow];have hp:x-1=2^k*(2*m)+(2^k-1):=by
  rw [hm,Nat.mul_add,Nat.mul_one];omega
 rw [hp,Nat.testBit_two_pow_mul_add _ (by omega)];by_cases hik:i<k
 ·simp [hik,h2 i hik];omega
 ·have hxi:x.testBit i=(2*m+1).testBit (i-k):=by
   rw [hm,Nat.testBit_two_pow_mul];simp;omega
  rw [hxi];simp only [hik,if_false];rcases Nat.eq_or_lt_of_le (Nat.le_of_not_lt hik) with h | h
  ·subst h;have hk32:k<32:=by
    rcases Nat.lt_or_ge k 32 with h' | h'
    ·exact h'
    ·rw [Nat.testBit_lt_two_pow (Nat.lt_of_lt_of_le hx (Nat.pow_le_pow_right (by omega) h'))] at h1;cases h1
   simp [hk32]
  ·obtain ⟨j,hj⟩:∃ j,i-k=j+1:=⟨i-k-1,by omega⟩
   rw [hj,Nat.testBit_succ,Nat.testBit_succ,show (2*m+1) / 2=m by omega,show 2*m / 2=m by omega];have:¬ k=i:=by omega
   simp [this];exact fun h _=>h
theorem Bbr {x k:Nat} (hx:x<4294967296) (h1:x.testBit k=true) (h2:∀ i,i<k->x.testBit i=false):x &&& (4294967296-x)=2^k:=and_neg' (by simpa using hx) h1 h2
def zeroTab:List Nat:=[0,1,28,2,29,14,24,3,30,22,20,15,25,17,4,8,31,27,13,23,21,19,16,7,26,12,18,6,11,5,10,9]
theorem Ayl:∀ k,k<32->zeroTab[2^k*125613361 % 4294967296 / 134217728]? = some k:=by decide +kernel
def Atj (g:Nat) (M:Nat->Option Obj):Prop:=∃ (cs:Array Value) (e:TypeId) (fr:Nat×Nat),M g=some (.cells cs e fr)/\∀ (i x:Nat),zeroTab[i]? = some x->cs[i]? = some (Value.int .u8 (x:Int))
def Ayp (P:Program) (f:Nat):Prop:=∀ w,Calls P f #[.int .u32 0] w fun e w'=>e=.returned (.int .i64 32)/\w'=w
def Ayo (P:Program) (f g:Nat):Prop:=∀ (n:Int),0<n->n<4294967296->∀ (k:Nat),k<32->∀ (w:World),
 w.cell? ⟨g,(bits .and .u32 n (-n % 4294967296)*125613361 % 4294967296 / 134217728).toNat,none⟩=some (.int .u8 (k:Int)) ->
 Calls P f #[.int .u32 n] w fun e w'=>e=.returned (.int .i64 (k:Int))/\w'=w
theorem Ax7 (y:Nat):((y:Int)*125613361 % 4294967296 / 134217728).toNat=y*125613361 % 4294967296 / 134217728:=by
 rw [show (y:Int)*125613361 % 4294967296=((y*125613361 % 4294967296:Nat):Int) by rw [Int.natCast_emod,Int.natCast_mul];simp only [Int.cast_ofNat_Int]];generalize y*125613361 % 4294967296=z;omega
theorem Bdj {x:Nat} (h0:0<x) (hx:x<4294967296):(-(x:Int) % 4294967296)=((4294967296-x:Nat):Int):=by omega
theorem Bc3 {w:World} {g q:Nat} {cs:Array Value} {e:TypeId} {fr:Nat×Nat} {v:Value} (h:w.heap[g]? = some (.cells cs e fr)) (k:cs[q]? = some v):w.cell? ⟨g,q,none⟩=some v:=by
 simp [World.cell?,h,k]
theorem Aym {P:Program} {f g:Nat} (hz:Ayp P f) (hs:Ayo P f g) {M:Mem} (hM:Atj g M) {w:World} (hmem:Aar M w) {n:Int} (h0:0<=n) (h1:n<4294967296) :
  Calls P f #[.int .u32 n] w fun e w'=>e=.returned (.int .i64 (Aei n.toNat 32 0:Nat))/\w'=w:=by
 obtain ⟨x,rfl⟩:=Int.eq_ofNat_of_zero_le h0;rw [Int.toNat_natCast];have hx:x<4294967296:=by omega
 rcases Nat.eq_zero_or_pos x with rfl | hp
 ·rw [Aoe];exact hz w
 ·obtain ⟨i,hi⟩:=Nat.exists_testBit_of_ne_zero (Nat.ne_of_gt hp);have hi32:i<32:=by
   rcases Nat.lt_or_ge i 32 with h' | h'
   ·exact h'
   ·rw [Nat.testBit_lt_two_pow (Nat.lt_of_lt_of_le (show x<2^32 from hx) (Nat.pow_le_pow_right (by decide) h'))] at hi;cases hi
  obtain ⟨a1,a2,a3⟩:=Aod x 32 0 (by simp) ⟨i,by omega,hi⟩;generalize Aei x 32 0=k at a1 a2 a3;have hand:=Bbr hx a1 a3;refine hs x (by omega) h1 k (by omega) w ?_;rw [Bdj hp hx,u32_and_nat x (4294967296-x) (by omega) (by omega),hand,Ax7];obtain ⟨cs,e,fr,hM,hcs⟩:=hM;have hW:=hmem g _ hM;have:=hcs _ _ (Ayl k (by omega));exact (Bc3 (w:=w) (fr:=fr) hW this)
theorem Axi {E:Env} {f g:Nat} (hm0:E.mode f 0≠.inout) (hrun:∀ args w,(callFunc f args).run E.P w=.ok (.enter f args) w) (hz:Ayp E.P f) (hs:Ayo E.P f g) (hgood:∀ M,E.good M->Atj g M)
  {ds:List D} {r:D} {outs:List D} (h:Amu ds=some (r,outs)):FnOK E f ds r outs:=by
 unfold Amu at h
 split at h
 ·rename_i n
  split at h
  ·rename_i hn;simp only [zJ,Prod.mk.injEq] at h;obtain ⟨rfl,rfl⟩:=h;intro M w ts hts htg hln hblk hmem hgd;rcases ts with _ | ⟨t1,_ | ⟨t2,rs⟩⟩
   case nil=>simp at hts
   case cons.cons=>simp at hts
   ·simp only [List.map_cons,List.map_nil,List.cons.injEq,and_true] at hts;obtain ⟨d,v,rfl,rfl,rfl⟩:∃ d v,t1=.leaf d v/\d=.lit (.int .u32 n)/\v=.int .u32 n:=by
     have hg:=(htg t1 (by simp)).2;cases t1 with
     | leaf d v=>
      simp only [T.erase] at hts;subst hts;have hg:RI M (.lit (.int .u32 n)) v:=hg;simp only [RI] at hg;exact ⟨_,_,rfl,rfl,hg.1⟩
     | _=>simp [T.erase] at hts
    have hlents:Aav E f 0 [T.leaf (.lit (.int .u32 n)) (.int .u32 n)]=[]:=by simp [Aav,hm0]
    rw [hlents];unfold Does;rw [hrun];have walk:=Aym hz hs (hgood M (hgd M (Mem.le_refl M))) hmem hn.1 hn.2;refine Calls.mono walk ?_;rintro e w' ⟨rfl,rfl⟩;refine ⟨M,.leaf (.lit (.int .i64 (Aei n.toNat 32 0:Nat))) (.int .i64 (Aei n.toNat 32 0:Nat)),[],rfl,rfl,trivial,⟨rfl,rfl⟩,rfl,by simp,rfl,?_,hmem,?_⟩
    ·exact BlkOK.nil _ _
    ·exact Evo.refl' _ _ (by simp [T.blocks,T.blocksC,keys])
  ·cases h
 ·cases h
end Go.Own
