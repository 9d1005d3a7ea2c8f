/- What the functions answer. No conditions. -/
import Derived.Test.YtockohmmmlhhfadGreatDoorTopPlainLaw12
import Derived.Test.YtockohmmmlhhfadGreatDoorTopPlainLaw5
set_option linter.all false
namespace Go.Own
def depL (n:Nat) (L:List drossref09_Dep):List api_FD:=L.map fun x=>{ Lhs:=((sN x.L &&& (2^n-1):Nat):Int),Rhs:=((sN x.R &&& (2^n-1):Nat):Int) }
def Bf6 (L:List drossref09_Dep):Prop:=∀ x∈L,(0<=x.L/\x.L<256)/\0<=x.R/\x.R<256
theorem Ayu {x:Int} (h:0<=x/\x<256) {n:Nat} (hn:n<=16):bAnd .u32 (IntKind.wrap .u32 x) ((2^n-1:Nat):Int)=((sN x &&& (2^n-1):Nat):Int):=by
 have hp:=Bl8 hn;have e:x=((sN x:Nat):Int):=by unfold sN;omega
 have e2:IntKind.wrap .u32 x=((sN x:Nat):Int):=by
  conv=>lhs;rw [e]
  exact Adh (k:=.u32) (by simp only [top];unfold sN;omega)
 rw [e2];exact Aw0 (k:=.u32) (by simp only [top];unfold sN;omega) (by simp only [top];omega)
theorem Ayl {x n:Nat}:x &&& (2^n-1)<2^n:=by
 have:=Nat.and_le_right (n:=x) (m:=2^n-1);have:0<2^n:=Nat.pow_pos (by omega);omega
theorem q76_.spec {n:Nat} {L:List drossref09_Dep} (hn:n<=16) (hL:Bf6 L) (hlen:L.length<=4000000):q76_.C n L (depL n L):=by
 obtain ⟨r,h1,h2⟩:=q76_.enter n L (fun r=>r=depL n L) (by
  refine ⟨_,Bc4 hn,?_⟩;have:∀ (r:List drossref09_Dep) (k:Nat),L.drop k=r->k<=L.length->q76_.L1 L ((2^n-1:Nat):Int) (depL n (L.take k)) k (fun r=>r=depL n L):=by
   intro r
   induction r with
   | nil=>
    intro k hd hk;have:=Aar hd;apply q76_.L1_step;rw [if_neg (by omega),List.take_of_length_le (by omega)]
   | cons x r ih=>
    intro k hd hk;have hlt:=Aas hd;have hx:=hL x (List.mem_of_getElem? (Aae hd));have next:=ih (k+1) (Aa8 hd) (by omega);rw [List.take_add_one,Aae hd,Option.toList_some] at next;unfold depL at next;rw [List.map_append,List.map_cons,List.map_nil] at next;apply q76_.L1_step;rw [if_pos (by omega)];refine ⟨x,Aaz hd,?_⟩;rw [Ayu hx.1 hn,Ayu hx.2 hn,Aa4 (by omega)];exact ⟨by unfold depL;rw [List.length_map,List.length_take];omega,next⟩
  exact this L 0 rfl (Nat.zero_le _))
 rw [← h1];exact h2
theorem Avd {t:api_Table} {i k a:Nat} {p q:api_Row} (hT:TV t) (hp:t.Rows[k]? = some p) (hq:t.Rows[i]? = some q) (ha:a<t.Attrs.length):EqA t i k a↔vAt p a=vAt q a:=by
 have lp:=hT.len (List.mem_of_getElem? hp);have lq:=hT.len (List.mem_of_getElem? hq);unfold EqA;rw [hp,hq];simp only [Option.map_some,zJ];rw [Ahr (by omega),Ahr (by omega),zJ];exact eq_comm
def NoV (t:api_Table) (X:List Nat) (a:Nat):Prop:=∀ p q,Pr t.Rows p q->¬ ((∀ i∈X,vAt p i=vAt q i)/\vAt p a≠vAt q a)
theorem Bhk {t:api_Table} {l r:Nat} (hT:TV t) (hl:l<2^t.Attrs.length) (hr:r<2^t.Attrs.length):SatP t l r↔∀ a∈Aaa (Aci r l),NoV t (Aaa l) a:=by
 have p32:2^t.Attrs.length<=2^32:=Nat.pow_le_pow_right (by decide) (by have:=hT.na;omega);have hl32:l<2^32:=by omega
 have hr32:r<2^32:=by omega
 have hd32:Aci r l<2^32:=Nat.lt_of_le_of_lt Ajk hr32;have bl:∀ {s a:Nat},s<2^t.Attrs.length->s.testBit a=true->a<t.Attrs.length:=fun {s a} hs h=>by
  false_or_by_contra
  rename_i hh;rw [Nat.testBit_lt_two_pow (Nat.lt_of_lt_of_le hs (Nat.pow_le_pow_right (by decide) (by omega)))] at h;cases h
 rw [Bhj hT hl32 hr32];constructor
 ·rintro h a ha p q ⟨k,i,hki,hp,hq⟩ ⟨h1,h2⟩;rw [Abs hd32,Akk,Bool.and_eq_true] at ha;have hi:i<t.Rows.length:=(List.getElem?_eq_some_iff.1 hq).1;refine h2 ((Avd hT hp hq (bl hr ha.1)).1 (h i k hi hki (fun b hb=>?_) a ha.1));exact (Avd hT hp hq (bl hl hb)).2 (h1 b ((Abs hl32).2 hb))
 ·intro h i k hi hki hX a ha;have hk:k<t.Rows.length:=by omega
  cases hla:l.testBit a with
  | true=>exact hX a hla
  | false=>
   have hp:=List.getElem?_eq_getElem hk;have hq:=List.getElem?_eq_getElem hi;rw [Avd hT hp hq (bl hr ha)]
   false_or_by_contra
   rename_i hne;refine h a ((Abs hd32).2 (by rw [Akk,ha,hla];rfl)) _ _ ⟨k,i,hki,hp,hq⟩ ⟨fun b hb=>?_,hne⟩;have hb:=(Abs hl32).1 hb;exact (Avd hT hp hq (bl hl hb)).1 (hX b hb)
theorem Bfs {t:api_Table} {X:List Nat} {a:Nat}:(∀ x,¬ VioC t (cndK X a) X x)↔NoV t X a:=by
 unfold NoV;simp only [Bdy];constructor
 ·exact fun h p q hp hv=>h _ ⟨p,q,hp,hv,rfl⟩
 ·rintro h x ⟨p,q,hp,hv,_⟩;exact h p q hp hv
theorem Ayt {t:api_Table} (hT:TV t) {X:List Nat} {a:Nat}:(∀ x,¬ VioS t (denK X a) x)↔NoV t X a:=by
 unfold NoV;simp only [Be0];constructor
 ·intro h p q hp hv;have hm:=Bhr hp;have:=Bks hT hp;exact h _ ⟨p,hm.1,q,hm.2,by omega,hv,rfl⟩
 ·rintro h x ⟨p,hp,q,hq,hne,hv,_⟩;rcases Bkt hp hq hne with h1 | h1
  ·exact h p q h1 hv
  ·exact h q p h1 ⟨fun i hi=>(hv.1 i hi).symm,fun e=>hv.2 e.symm⟩
namespace drosstop_TopPlain
theorem again {φ:Bool->Prop} (h:φ true):L2 φ:=L2_step φ ⟨true,q66_.spec,h⟩
theorem spec (x:drossref03_Recipe) (d:drossref09_Dep) (hx:RecOK x) (hd:Bf6 [d]):C x d true:=by
 obtain ⟨r,e1,e2⟩:=enter x d (fun r=>r=true) (by
  refine ⟨tabF x 7,q58_.spec (most:=7) (by omega) hx,true,q66_.spec,?_⟩;rw [if_pos rfl];by_cases hr:x.Rows.length<=7
  ·have et:tabF x 7=(Ad0 x (x.Attrs % 6).toNat,true):=by unfold tabF;rw [if_pos hr]
   rw [et,if_pos rfl];have hA:(Ad0 x (x.Attrs % 6).toNat).Attrs.length=(x.Attrs % 6).toNat:=Bb9 (by omega);have hT:TV (Ad0 x (x.Attrs % 6).toNat):=Bba (by omega) hx (by omega);have hN:TNum (Ad0 x (x.Attrs % 6).toNat):=Bf5;have h7:(Ad0 x (x.Attrs % 6).toNat).Rows.length<=10:=by simp only [Ad0,List.length_map,List.length_zipIdx];omega
   have hn6:(Ad0 x (x.Attrs % 6).toNat).Attrs.length<6:=by omega
   generalize Ad0 x (x.Attrs % 6).toNat=t at *;refine ⟨_,q76_.spec (n:=t.Attrs.length) (by omega) hd (by simp),(⟨((sN d.L &&& (2^t.Attrs.length-1):Nat):Int),((sN d.R &&& (2^t.Attrs.length-1):Nat):Int)⟩:api_FD),rfl,?_⟩;generalize hl:sN d.L &&& (2^t.Attrs.length-1)=l;generalize hrr:sN d.R &&& (2^t.Attrs.length-1)=r;have hln:l<2^t.Attrs.length:=by rw [← hl];exact Ayl
   have hrn:r<2^t.Attrs.length:=by rw [← hrr];exact Ayl
   have p32:2^t.Attrs.length<=2^32:=Nat.pow_le_pow_right (by decide) (by omega);have hl32:l<2^32:=by omega
   have hr32:r<2^32:=by omega
   have hd32:Aci r l<2^32:=Nat.lt_of_le_of_lt Ajk hr32;obtain ⟨p,p1,p2,p3⟩:=q75_.spec (t:=t) (fd:=⟨(l:Int),(r:Int)⟩) hN rfl rfl hl32 hr32;have hE:Ajb t l r=0:=by
    unfold Ajb;rw [if_pos (Aiv.2 hT),if_pos (Nat.or_lt_two_pow hln hrn)]
   have p3:p.1=true↔∀ a∈Aaa (Aci r l),NoV t (Aaa l) a:=by
    rw [p3,Bhk hT hln hrn];simp [hE]
   refine ⟨p,p1,?_⟩;rw [if_pos (by rw [p2,hE])];refine ⟨_,q48_.spec (fd:=⟨(l:Int),(r:Int)⟩) rfl rfl hl32 hr32,?_⟩;have hX:∀ i∈Aaa l,i<t.Attrs.length:=fun i hi=>by
    false_or_by_contra
    rename_i hh;have:=(Abs hl32).1 hi;rw [Nat.testBit_lt_two_pow (Nat.lt_of_lt_of_le hln (Nat.pow_le_pow_right (by decide) (by omega)))] at this;cases this
   have hR:∀ a∈Aaa (Aci r l),a<t.Attrs.length/\a ∉ Aaa l:=fun a ha=>by
    have hb:=(Abs hd32).1 ha;rw [Akk,Bool.and_eq_true] at hb;refine ⟨?_,fun h=>?_⟩
    ·false_or_by_contra
     rename_i hh;rw [Nat.testBit_lt_two_pow (Nat.lt_of_lt_of_le hrn (Nat.pow_le_pow_right (by decide) (by omega)))] at hb;cases hb.1
    ·rw [(Abs hl32).1 h] at hb;cases hb.2
   have hXl:(Aaa l).length<=16:=by have:=Bdq hln (by omega);omega
   have hRl:(Aaa (Aci r l)).length<=32:=Aej;have hXs:(Aaa l).Pairwise (·<·):=Aih;have hden:=q88_.spec (n:=t.Attrs.length) (fd:=⟨(l:Int),(r:Int)⟩) rfl rfl (by omega) hln hrn;generalize Aaa (Aci r l)=R at *;generalize Aaa l=X at *;have stop:∀ j:Int,¬ j<(((R.map (cndK X)).length:Nat):Int)->∀ b:Bool,(b=true↔∀ a∈R,NoV t X a)->L1 (t,true) ⟨(l:Int),(r:Int)⟩ p b (R.map (cndK X)) j fun r=>r=true:=fun j hj b hb=>by
    have eb:b=p.1:=by rw [Bool.eq_iff_iff,hb,p3]
    obtain ⟨v,v1,v2,_,v4⟩:=q41_.spec (t:=t) (ds:=R.map (denK X)) hT h7 (fun d hd=>by
     obtain ⟨a,ha,rfl⟩:=List.mem_map.1 hd
     exact Bdz hX (by omega) (hR a ha).1) (by rw [List.length_map];omega)
    apply L1_step;rw [if_neg hj];refine ⟨_,hden,v,v1,?_⟩;rw [if_pos rfl,if_pos v2,if_pos eb];rw [beq_iff_eq,Bool.eq_iff_iff,p3,beq_iff_eq,Int.natCast_eq_zero,List.length_eq_zero_iff,List.eq_nil_iff_forall_not_mem];constructor
    ·intro h a ha;rw [← Ayt hT];exact fun x hxv=>h x ((v4 x).2 ⟨_,List.mem_map.2 ⟨a,ha,rfl⟩,hxv⟩)
    ·intro h x hxv;obtain ⟨d,hd,hv⟩:=(v4 x).1 hxv;obtain ⟨a,ha,rfl⟩:=List.mem_map.1 hd;exact (Ayt hT).2 (h a ha) x hv
   have loop:∀ (Q:List Nat) (j:Nat) (b:Bool),R.drop j=Q->(b=true↔∀ a∈R.take j,NoV t X a)->L1 (t,true) ⟨(l:Int),(r:Int)⟩ p b (R.map (cndK X)) j fun r=>r=true:=by
    intro Q
    induction Q with
    | nil=>
     intro j b hj hb;have hge:=Aar hj;rw [List.take_of_length_le hge] at hb;exact stop j (by rw [List.length_map];omega) b hb
    | cons a Q ih=>
     intro j b hj hb;have hlt:=Aas hj;have ha:=hR a (List.mem_of_getElem? (Aae hj));obtain ⟨h,h1,h2,h3⟩:=q55_.spec hT (Bfr (n:=t.Attrs.length) (by omega) hXs hX hXl ha.1 ha.2) h7;rw [Bfs] at h3;apply L1_step;rw [List.length_map,if_pos (by omega)];refine ⟨cndK X a,by rw [Ab5,List.getElem?_map,Aae hj];rfl,h,h1,?_⟩;rw [if_pos h2];have next:∀ b',(b'=true↔b=true/\h.1=true)->L3 (t,true) ⟨(l:Int),(r:Int)⟩ p b' (R.map (cndK X)) j fun r=>r=true:=fun b' hb'=>by
      apply L3_step;rw [Aa4 (by omega)];refine ih (j+1) b' (Aa8 hj) ?_;rw [hb',hb,h3,List.take_add_one,Aae hj];simp only [Option.toList_some,List.mem_append,List.mem_singleton,or_imp,forall_and,forall_eq]
     split
     ·rename_i hbt;exact next _ (by simp [hbt])
     ·rename_i hbt;exact next _ (by simp [hbt])
   exact loop R 0 true rfl (by simp)
  ·have et:tabF x 7=(⟨⟨#[]⟩,[],[]⟩,false):=by unfold tabF;rw [if_neg hr]
   rw [et,if_neg (by decide)]
   exact again rfl)
 subst e1;exact e2
theorem law {xs:List D} (hx:Ak8 env.P Ane Anf xs):Ret env Anc xs (.lit (.bool true)) []:=
 Amc (fun x0 x1 h0 h1=>spec x0 x1 ⟨Asl h0.1,Asl h0.2.1,fun r hr c hc=>Asl ((h0.2.2.2 r hr).2 c hc)⟩ (fun y hy=>by rw [List.mem_singleton.1 hy];exact ⟨Asl h1.1,Asl h1.2⟩)) hx
end drosstop_TopPlain
end Go.Own
