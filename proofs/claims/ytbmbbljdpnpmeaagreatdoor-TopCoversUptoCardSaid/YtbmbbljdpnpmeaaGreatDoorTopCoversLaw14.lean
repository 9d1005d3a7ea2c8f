/- No conditions. -/
import Derived.Test.YtbmbbljdpnpmeaaGreatDoorTopCoversLaw13
import Derived.Test.YtbmbbljdpnpmeaaGreatDoorOwn32
import Derived.Test.YtbmbbljdpnpmeaaGreatDoorTopCoversLaw4
set_option linter.all false
namespace Go.Own
def depL (n:Nat) (L:List drossref09_Dep):List api_FD:=L.map fun x=>{ Lhs:=((sN x.L &&& (2^n-1):Nat):Int),Rhs:=((sN x.R &&& (2^n-1):Nat):Int) }
def Bai (L:List drossref09_Dep):Prop:=∀ x∈L,(0<=x.L/\x.L<256)/\0<=x.R/\x.R<256
theorem Azp {x:Int} (h:0<=x/\x<256) {n:Nat} (hn:n<=16):bAnd .u32 (IntKind.wrap .u32 x) ((2^n-1:Nat):Int)=((sN x &&& (2^n-1):Nat):Int):=by
 have hp:=Abu hn;have e:x=((sN x:Nat):Int):=by unfold sN;omega
 have e2:IntKind.wrap .u32 x=((sN x:Nat):Int):=by
  conv=>lhs;rw [e]
  exact Abx (k:=.u32) (by simp only [top];unfold sN;omega)
 rw [e2];exact Aem (k:=.u32) (by simp only [top];unfold sN;omega) (by simp only [top];omega)
theorem Apa {x n:Nat}:x &&& (2^n-1)<2^n:=by
 have:=Nat.and_le_right (n:=x) (m:=2^n-1);have:0<2^n:=Nat.pow_pos (by omega);omega
theorem q67_.spec {n:Nat} {L:List drossref09_Dep} (hn:n<=16) (hL:Bai L) (hlen:L.length<=4000000):q67_.C n L (depL n L):=by
 obtain ⟨r,h1,h2⟩:=q67_.enter n L (fun r=>r=depL n L) (by
  refine ⟨_,Bdh hn,?_⟩;have:∀ (r:List drossref09_Dep) (k:Nat),L.drop k=r->k<=L.length->q67_.L1 L ((2^n-1:Nat):Int) (depL n (L.take k)) k (fun r=>r=depL n L):=by
   intro r
   induction r with
   | nil=>
    intro k hd hk;have:=Aax hd;apply q67_.L1_step;rw [if_neg (by omega),List.take_of_length_le (by omega)]
   | cons x r ih=>
    intro k hd hk;have hlt:=Aay hd;have hx:=hL x (List.mem_of_getElem? (Aaj hd));have next:=ih (k+1) (Aa7 hd) (by omega);rw [List.take_add_one,Aaj hd,Option.toList_some] at next;unfold depL at next;rw [List.map_append,List.map_cons,List.map_nil] at next;apply q67_.L1_step;rw [if_pos (by omega)];refine ⟨x,Aar hd,?_⟩;rw [Azp hx.1 hn,Azp hx.2 hn,Aa3 (by omega)];exact ⟨by unfold depL;rw [List.length_map,List.length_take];omega,next⟩
  exact this L 0 rfl (Nat.zero_le _))
 rw [← h1];exact h2
def depN (N:Int):Nat:=(N % 7).toNat
theorem Atk {N:Int}:depN N<=6:=by unfold depN;omega
theorem q78_.spec {d:drossref09_Deps} (hN:0<=d.N/\d.N<256) (hL:Bai d.L) (hlen:d.L.length<=4000000):q78_.C d (((depN d.N:Nat):Int),depL (depN d.N) d.L,decide ((d.L.length:Int)<=6)):=by
 obtain ⟨r,h1,h2⟩:=q78_.enter d (fun r=>r=(((depN d.N:Nat):Int),depL (depN d.N) d.L,decide ((d.L.length:Int)<=6))) (by
  have e:IntKind.wrap .i64 (Int.tmod d.N 7)=((depN d.N:Nat):Int):=by
   rw [Int.tmod_eq_emod_of_nonneg hN.1];have:d.N % 7=((depN d.N:Nat):Int):=by unfold depN;omega
   rw [this];exact Abx (k:=.i64) (by simp only [top];have:=Atk (N:=d.N);omega)
  rw [e];exact ⟨_,q67_.spec (by have:=Atk (N:=d.N);omega) hL hlen,rfl⟩)
 rw [← h1];exact h2
theorem Ayh:∀ (es:List (List D)),es.length<=wtLL es
 | []=>Nat.le_refl _
 | x::r=>by simp only [wtLL,List.length_cons];have:=Ayh r;omega
theorem Bh9 {n:Nat} {L:List drossref09_Dep} (hn:n<=16):FdOK (depL n L):=fun d hd=>by
 obtain ⟨x,_,rfl⟩:=List.mem_map.1 hd;have hp:=Abu hn;exact ⟨U32.of (Nat.lt_of_lt_of_le Apa (by omega)),U32.of (Nat.lt_of_lt_of_le Apa (by omega))⟩
theorem Ax2 {n:Nat} {L:List drossref09_Dep}:(depL n L).length=L.length:=by simp [depL]
theorem Bf7 {n:Nat} {L:List drossref09_Dep} (hn:n<=6) (hl:L.length<=6):errA (n:Int) (depL n L)=0:=by
 have h0:fdsE (n:Int) (depL n L)=0:=by
  unfold fdsE;rw [if_neg (by omega),if_neg (by rw [Ax2];omega),if_pos];rw [List.all_eq_true];intro d hd;obtain ⟨x,_,rfl⟩:=List.mem_map.1 hd;unfold inU;rw [Ab2,Ab2,Int.toNat_natCast,decide_eq_true Apa,decide_eq_true Apa];rfl
 unfold errA;rw [if_pos h0,if_neg (by omega)]
theorem Bgl {b:UInt8} (h:(letB (u8i b)&&true)=true):Aih ⟨#[b]⟩=true:=by
 unfold Aih;have e:(⟨#[b]⟩:ByteArray).toList=[b]:=Aw6 (l:=[b]);rw [e];simp only [Ad5,List.length_nil,List.all_nil,Bool.and_true] at h ⊢;rw [h];have:decide ([b]=Apn)=false:=decide_eq_false (by unfold Apn;simp);rw [this];rfl
theorem Aso:∀ (r pre:List ByteArray),(∀ x∈r,Aih x=true)->(pre++r).Nodup->Ai2 pre r=true
 | [],_,_,_=>rfl
 | a::r,pre,hn,hd=>by
  rw [Ai2,hn a (by simp),Aso r (pre++[a]) (fun x hx=>hn x (by simp [hx])) (by rw [List.append_assoc];exact hd)];have:pre.any (eqS a)=false:=by
   rw [List.any_eq_false];intro x hx;unfold eqS;rw [decide_eq_true_iff];intro he;subst he;rw [List.nodup_append] at hd;exact hd.2.2 x hx x (by simp) rfl
  rw [this];rfl
theorem Bcg {m:Nat}:Ahd (abcL.take m)=true:=by
 unfold Ahd;refine Aso _ [] (fun x hx=>?_) ?_
 ·have hx:=List.mem_of_mem_take hx;unfold abcL at hx;simp only [List.mem_cons,List.not_mem_nil,or_false] at hx;rcases hx with rfl | rfl | rfl | rfl | rfl | rfl | rfl | rfl | rfl | rfl<;>exact Bgl (by decide)
 ·rw [List.nil_append];have:abcL.Nodup:=by decide +kernel
  exact this.sublist (List.take_sublist _ _)
theorem Bam {n k m:Nat}:Adv (armV n k m)=true:=by
 unfold Adv;rw [List.all_eq_true];intro v hv;obtain ⟨i,_,rfl⟩:=List.mem_map.1 hv;unfold Aba;rw [decide_eq_true_iff];exact .inr (.inl ⟨rfl,Awu⟩)
theorem Avm {n:Nat}:∀ {ms:List Nat} {k:Nat} {last:Int},last<=(k:Int)->Aes n last (Abj n k ms)=0
 | [],_,_,_=>rfl
 | m::r,k,last,h=>by
  rw [Abj,Aes,if_neg (by show ¬ (((k+1:Nat):Int)<=last);omega),if_pos (show (Ajp n k m).Values.length=n from Aqs),if_pos (show Adv (Ajp n k m).Values=true from Bam)];exact Avm (Int.le_refl _)
theorem Alb {n:Nat} {l:List api_FD} (hn:n<=6):(Aca n l).length<=65:=by
 unfold Aca;rw [List.length_cons,List.length_map];have h1:(irrL n (Aaq n l)).length<=(Aaq n l).length:=List.length_filter_le _ _;have h2:(Aaq n l).length<=2^n:=by
  unfold Aaq;refine Nat.le_trans (List.length_filter_le _ _) ?_;rw [An9 (by omega)];exact Nat.le_refl _
 have h3:2^n<=2^6:=Nat.pow_le_pow_right (n:=2) (by omega) hn;omega
theorem Bcn {n:Nat} {l:List api_FD} (hn:n<=6):TV (armT n l) where
 name:=Bgl (by decide)
 na:=by show (abcL.take n).length<=16;rw [List.length_take];omega
 nr:=by show (Abj n 0 (Aca n l)).length<=1000;rw [Ag4];have:=Alb (l:=l) hn;omega
 names:=Bcg
 rows:=by
  have e:(armT n l).Attrs.length=n:=by
   show (abcL.take n).length=n;rw [List.length_take];have:abcL.length=10:=rfl;omega
  rw [e];exact Avm (Int.le_refl _)
theorem Ao1 {n:Nat} {l:List api_FD} (hn:n<=6):(armT n l).Attrs.length=n:=by
 show (abcL.take n).length=n;rw [List.length_take];have:abcL.length=10:=rfl;omega
theorem Apx {n:Nat}:∀ {ms:List Nat} {k:Nat},k+ms.length<=100000->∀ r∈Abj n k ms,∀ v∈r.Values,Aj3 v
 | [],_,_,r,hr=>by cases hr
 | m::ms,k,hk,r,hr=>by
  rw [List.length_cons] at hk;rcases List.mem_cons.1 hr with rfl | hr
  ·intro v hv;obtain ⟨i,_,rfl⟩:=List.mem_map.1 hv;unfold Aj3;simp only
   split<;>omega
  ·exact Apx (by omega) r hr
theorem Bgt {n:Nat} {l:List api_FD} (hn:n<=6):TNum (armT n l):=Apx (by have:=Alb (l:=l) hn;omega)
theorem Bgs {n:Nat} {l:List api_FD} (hn:n<=6) (h0:errA (n:Int) l=0):errT (armT n l) l=0:=by
 unfold errT;have hr:(armT n l).Rows.length=(Aca n l).length:=Ag4;have:=Alb (l:=l) hn;rw [if_pos (Ajh.2 (Bcn hn)),if_neg (by omega),Ao1 hn];exact h0
theorem FdN.r32 {n:Nat} {l:List api_FD} (h:FdN n l):∀ d∈l,sN d.Rhs<2^32:=fun d hd=>(h.ok d hd).2.lt
theorem Aav.clo {n:Nat} {l m:List api_FD} (h:Aav l m) (hl:FdN n l) (hm:FdN n m) {s:Nat} (hs:s<2^32):cloN m s=cloN l s:=
 Al4 (Ahs Apg ((h _).1 (Aqv hl.r32 hs))) (Ahs Apg ((h _).2 (Aqv hm.r32 hs)))
theorem Atn {n:Nat} {l:List api_FD} (hn:n<=16) (h:FdN n l) (hlen:l.length<=64):fdsE (n:Int) l=0:=by
 unfold fdsE;rw [if_neg (by omega),if_neg (by omega),if_pos];rw [List.all_eq_true];intro d hd;unfold inU;rw [Int.toNat_natCast,decide_eq_true (h.fin d hd).1,decide_eq_true (h.fin d hd).2];rfl
namespace drosstop_TopCovers
theorem again {φ:Bool->Prop} (h:φ true):L2 φ:=L2_step φ ⟨true,q51_.spec,h⟩
theorem spec (d:drossref09_Deps) (hN:0<=d.N/\d.N<256) (hL:Bai d.L) (hlen:d.L.length<=4000000):C d true:=by
 obtain ⟨r,h1,h2⟩:=enter d (fun r=>r=true) (by
  refine ⟨_,q78_.spec hN hL hlen,true,q51_.spec,?_⟩;rw [if_pos rfl];have hn6:=Atk (N:=d.N);generalize depN d.N=n at *;by_cases h6:(d.L.length:Int)<=6
  ·rw [if_pos (decide_eq_true h6)];have hok:=Bh9 (n:=n) (L:=d.L) (by omega);have hll:(depL n d.L).length<=6:=by rw [Ax2];omega
   have h0:=Bf7 (n:=n) (L:=d.L) hn6 (by omega);have hfe:=(Alq h0).2.2;have hf:FdIn n (depL n d.L):=by
    have:=Azu hfe
    rwa [Int.toNat_natCast] at this
   have hF:FdN n (depL n d.L):=⟨hok,hf⟩
   generalize decide ((d.L.length:Int)<=6)=okk;generalize depL n d.L=l at *;have hpw:=Abu (n:=n) (by omega);have hbn:n*l.length<=6*6:=Nat.mul_le_mul hn6 hll;obtain ⟨m1,cM,f1,s1,l1⟩:=q77_.spec (by omega) hF (by omega) hfe;obtain ⟨m2,cC,f2,s2,l2⟩:=q62_.spec (by omega) hF (by omega) hfe;obtain ⟨K,cK,kl,km⟩:=q83_.some_ (n:=n) (l:=l) (by omega);have eI:irrF (n:Int) l=(irrL n (Aaq n l),0):=by unfold irrF;rw [if_pos h0,Int.toNat_natCast]
   have eA:armF (n:Int) l=(armT n l,0):=by unfold armF;rw [eI];simp
   have cB:=q63_.spec (n:=(n:Int)) hok (by omega);rw [eA] at cB;have aAll:=q95_.of (r:=K) (by omega) hok (by omega) hfe rfl cK;have cl:∀ m:List api_FD,FdN n m->m.length<=64->Aht (n:Int) m=(Aaq n m,0):=fun m hm hml=>by
    unfold Aht;rw [if_neg (by omega),if_neg (by omega),if_pos (Atn (by omega) hm hml),Int.toNat_natCast]
   have cCl:=q68_.spec (n:=(n:Int)) hok (show l.length<1000000000 by omega);rw [cl l hF (by omega)] at cCl;have hTV:=Bcn (l:=l) hn6;have one:∀ m:List api_FD,FdN n m->Aav l m->m.length<=64->q68_.C n m (Aaq n l,0)/\q95_.C n m (K,0)/\q66_.C (armT n l) m (true,0):=by
    intro m hm hs hml;have hclo:∀ s,s<2^32->cloN m s=cloN l s:=fun s hs'=>hs.clo hF hm hs';have e1:Aaq n m=Aaq n l:=by
     unfold Aaq;refine List.filter_congr fun y hy=>?_;rw [Bool.eq_iff_iff,Amj,Amj];exact (hs _).symm
    refine ⟨?_,?_,?_⟩
    ·have:=q68_.spec (n:=(n:Int)) hm.ok (show m.length<1000000000 by omega);rw [cl m hm hml,e1] at this;exact this
    ·refine q95_.of (by omega) hm.ok (by omega) (Atn (by omega) hm hml) ?_ cK;unfold supL;refine List.map_congr_left fun s hs'=>?_;unfold supB;rw [List.mem_range] at hs';rw [hclo s (by omega)]
    ·have:=q66_.spec (t:=armT n l) (Bgt hn6) hm.ok (show m.length<1000000000 by omega);have e:Aob (armT n l) m=(true,0):=by
      have hE:errT (armT n l) m=0:=by
       have h1:=Bgs (l:=l) hn6 h0;unfold errT at h1 ⊢
       split at h1
       ·rename_i q1;rw [if_pos q1]
        split at h1
        ·cases h1
        ·rename_i q2;rw [if_neg q2,Ao1 hn6];unfold errA;rw [if_pos (Atn (by omega) hm hml),if_neg (by omega)]
       ·rename_i q1;exact absurd h1 q1
      unfold Aob;rw [if_pos hE,Ao1 hn6];have:exB (armT n l) m n=true:=by
       rw [Azt];intro s a hs' ha;rw [hclo s (by omega)];exact Bco (by omega) hf hTV rfl s a hs' ha
      rw [this]
     rw [e] at this;exact this
   refine ⟨_,cM,_,cC,_,cCl,_,aAll,_,q92_.of kl aAll,_,cB,?_⟩;rw [if_pos rfl,if_pos rfl,if_pos rfl,if_pos rfl,if_pos rfl,if_pos rfl];have hcl:(Aaq n l).length<=1000000000000:=by
    unfold Aaq;refine Nat.le_trans (List.length_filter_le _ _) ?_;have:=Bec (s:=2^n-1) (by omega);omega
   have step:∀ (k:Nat) (m:List api_FD) (φ:Bool->Prop),lget [m1,m2] (k:Int)=some m->k<2->FdN n m->Aav l m->m.length<=64->L1 ((n:Int),l,okk) (m1,0) (m2,0) (Aaq n l,0) (K,0) (orI K 0,0) (armT n l,0) ((k+1:Nat):Int) φ->L1 ((n:Int),l,okk) (m1,0) (m2,0) (Aaq n l,0) (K,0) (orI K 0,0) (armT n l,0) (k:Int) φ:=by
    intro k m φ hk hk2 hm hs hml h;obtain ⟨g1,g2,g3⟩:=one m hm hs hml;apply L1_step;rw [if_pos (by simp;omega)];refine ⟨m,hk,_,g1,_,g2,_,q92_.of kl g2,_,g3,?_⟩;rw [if_pos rfl,if_pos rfl,if_pos rfl,if_pos rfl];refine ⟨true,Aru hcl,?_⟩;rw [if_pos rfl];refine ⟨true,Aru (l:=K) (by omega),?_⟩;rw [if_pos rfl,if_pos rfl,if_pos rfl,Aa3 (by omega)];exact h
   refine step 0 m1 _ rfl (by omega) f1 s1 (by omega) (step 1 m2 _ rfl (by omega) f2 s2 (by omega) ?_);apply L1_step;rw [if_neg (by simp)]
  ·rw [if_neg (by simpa using h6)];exact again rfl)
 subst h1;exact h2
theorem law {xs:List D} (hx:Ame env.P Amm Amn xs) (hw:wtL xs<=1048576):Ret env Aml xs (.lit (.bool true)) []:=by
 obtain ⟨x0,h0,e⟩:=Akk (P:=env.P) tf hx;rw [e] at hw ⊢;have hlen:x0.L.length<=4000000:=by
  have h1:=Ayh (x0.L.map Ab0);rw [List.length_map] at h1;simp only [Af3,wtL,wt] at hw;omega
 exact spec x0 (Bc7 h0.1) (fun x hx=>⟨Bc7 (h0.2.2 x hx).1,Bc7 (h0.2.2 x hx).2⟩) hlen
end drosstop_TopCovers
end Go.Own
