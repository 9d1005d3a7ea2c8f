/- What the functions answer. No conditions. -/
import Derived.Test.YtockohmmmlhhfabGreatDoorTopTranslationsLaw13
import Derived.Test.YtockohmmmlhhfabGreatDoorTopTranslationsLaw6
set_option linter.all false
namespace Go.Own
theorem q60_.same {l:List (List Int)} (hl:l.length<=1000000) (hp:∀ x∈l,x.length<=1000):q60_.C l l true:=by
 obtain ⟨r,h1,h2⟩:=q60_.enter l l (fun r=>r=true) (by
  rw [if_pos rfl];refine down (n:=l.length) (P:=fun k=>q60_.L1 l l k fun r=>r=true) ?_ ?_ 0 (Nat.zero_le _)
  ·apply q60_.L1_step;rw [if_neg (by omega)]
  ·intro k hk h;have hg:=List.getElem?_eq_getElem hk;have hm:=hp _ (List.getElem_mem hk);apply q60_.L1_step;rw [if_pos (by omega)];refine ⟨_,Aap hg,_,Aap hg,_,q49_.spec hm hm,?_⟩;rw [Ads,if_neg Bool.false_ne_true];refine ⟨_,q49_.spec hm hm,?_⟩;rw [Ads,if_neg Bool.false_ne_true,Aa6 (by omega)]
   exact h)
 rw [← h1];exact h2
structure DraftOK (x:drossref16_Draft):Prop where
 lhs:0<=x.Lhs/\x.Lhs<256
 rhs:0<=x.Rhs/\x.Rhs<256
 codes:∀ c∈x.Codes,0<=c/\c<256
theorem q86_.spec {n:Nat} {x:drossref16_Draft} (h0:1<=n) (hn:n<=8) (hx:DraftOK x) (hl:x.Codes.length<=20):∃ c,q86_.C n x c/\∃ L,CndOK n c L/\L.length<=n:=by
 obtain ⟨c,h1,h2⟩:=q86_.enter n x (fun c=>∃ L,CndOK n c L/\L.length<=n) ⟨by omega,by
  have hr:=hx.rhs;have hlh:=hx.lhs;have eq:Int.tmod (IntKind.wrap .i64 x.Rhs) n=(((x.Rhs % (n:Int)).toNat:Nat):Int):=by
   rw [Abw (by omega) (by omega),Int.tmod_eq_emod_of_nonneg hr.1];have:=Int.emod_nonneg x.Rhs (b:=(n:Int)) (by omega);omega
  have hq:(x.Rhs % (n:Int)).toNat<n:=by
   have:=Int.emod_nonneg x.Rhs (b:=(n:Int)) (by omega);have:=Int.emod_lt_of_pos x.Rhs (b:=(n:Int)) (by omega);omega
  generalize (x.Rhs % (n:Int)).toNat=q at *;have ew:IntKind.wrap .u32 x.Lhs=((sN x.Lhs:Nat):Int):=by
   have e:x.Lhs=((sN x.Lhs:Nat):Int):=by unfold sN;omega
   conv=>lhs;rw [e]
   exact Ag0 (k:=.u32) (by simp only [top];unfold sN;omega)
  have hs:sN x.Lhs<2^32:=by unfold sN;omega
  have nl:∀ l:List Nat,(nI l).length=l.length:=fun l=>by simp
  have l3:∀ (L:List Nat),L.Pairwise (·<·)->(∀ i∈L,i<n)->q ∉ L->L.length<=n->∀ (d k:Nat) (acc:List api_Cell),d+k=L.length+1->acc.length=k->(∀ p∈acc,(p.Any=true/\p.Value=Adb)∨(p.Any=false/\Ac5 p.Value=true))->q86_.L3 x (nI L) q acc k fun c=>∃ L,CndOK n c L/\L.length<=n:=by
   intro L ha hlt hqL hLl d
   induction d with
   | zero=>
    intro k acc hd hk hp;apply q86_.L3_step;rw [nl,if_neg (by omega)];exact ⟨L,⟨by omega,rfl,ha,hlt,by omega,⟨by show (0:Int)<=(q:Int);omega,by show (q:Int)<n;omega⟩,by show (q:Int).toNat ∉ L;rwa [Int.toNat_natCast],by show acc.length=L.length+1;omega,hp⟩,hLl⟩
   | succ d ih=>
    intro k acc hd hk hp;have next:∀ p:api_Cell,((p.Any=true/\p.Value=Adb)∨(p.Any=false/\Ac5 p.Value=true))->q86_.L5 x (nI L) q (acc++[p]) k fun c=>∃ L,CndOK n c L/\L.length<=n:=fun p hpp=>by
     apply q86_.L5_step;rw [Aa6 (by omega)];refine ih (k+1) _ (by omega) (by simp [hk]) fun p' hp'=>?_;rw [List.mem_append,List.mem_singleton] at hp';rcases hp' with h | rfl
     ·exact hp p' h
     ·exact hpp
    have any:q86_.L4 x (nI L) q acc k fun c=>∃ L,CndOK n c L/\L.length<=n:=by
     apply q86_.L4_step;exact ⟨by omega,next _ (.inl ⟨rfl,rfl⟩)⟩
    apply q86_.L3_step;rw [nl,if_pos (by omega)];by_cases hc:(x.Codes.length:Int)<=(k:Int)
    ·rw [if_pos hc];exact any
    ·rw [if_neg hc];have hg:=List.getElem?_eq_getElem (l:=x.Codes) (i:=k) (by omega);have hb:=hx.codes _ (List.mem_of_getElem? hg);generalize x.Codes[k]'(by omega)=a at hg hb;refine ⟨a,Aap hg,?_⟩
     split
     ·exact any
     ·have e2:Int.tmod (IntKind.wrap .u8 (Int.tdiv a 2)) 3=(((a / 2) % 3).toNat:Nat):=by
       rw [Int.tdiv_eq_ediv_of_nonneg hb.1];have e:a / 2=(((a / 2).toNat:Nat):Int):=by omega
       have ew:IntKind.wrap .u8 (a / 2)=a / 2:=by
        rw [e];exact Ag0 (k:=.u8) (by simp only [top];omega)
       rw [ew,Int.tmod_eq_emod_of_nonneg (by omega)];omega
      rw [e2];exact ⟨_,q81_.spec _,by omega,next _ (.inr ⟨rfl,(Azo _).1⟩)⟩
  have pl:∀ k,((List.range k).filter fun i=>(sN x.Lhs).testBit i&&decide (i≠q)).length<=k:=fun k=>by
   have:=List.length_filter_le (fun i=>(sN x.Lhs).testBit i&&decide (i≠q)) (List.range k);rw [List.length_range] at this;exact this
  have l1:∀ k,k<=n->q86_.L1 n x (nI ((List.range k).filter fun i=>(sN x.Lhs).testBit i&&decide (i≠q))) k fun c=>∃ L,CndOK n c L/\L.length<=n:=by
   refine down ?_ ?_
   ·apply q86_.L1_step;rw [if_neg (by omega),eq];refine l3 _ (List.pairwise_lt_range.filter _) (fun i hi=>List.mem_range.1 (List.mem_filter.1 hi).1) (fun h=>?_) (pl n) _ 0 [] rfl rfl (by simp);have:=(List.mem_filter.1 h).2;simp at this
   ·intro k hk h;have hpl:=pl k;have stay:((sN x.Lhs).testBit k&&decide (k≠q))=false->q86_.L2 n x (nI ((List.range k).filter fun i=>(sN x.Lhs).testBit i&&decide (i≠q))) k fun c=>∃ L,CndOK n c L/\L.length<=n:=fun hb=>by
     apply q86_.L2_step;rw [Aa6 (by omega)];rw [List.range_succ,List.filter_append,List.filter_cons_of_neg (by simp only [hb];decide),List.filter_nil,List.append_nil] at h;exact h
    apply q86_.L1_step;rw [if_pos (by omega),ew];refine ⟨_,q69_.spec hs,?_⟩
    split
    ·rename_i hb;rw [eq];by_cases hkq:k=q
     ·rw [if_pos (by omega)];exact stay (by simp [hkq])
     ·rw [if_neg (by omega)];refine ⟨by rw [nl];omega,?_⟩;apply q86_.L2_step;rw [Aa6 (by omega)];rw [List.range_succ,List.filter_append,List.filter_cons_of_pos (by simp [hb,hkq]),List.filter_nil] at h;simpa using h
    ·rename_i hb;exact stay (by rw [Bool.eq_false_iff.2 hb];rfl)
  have:=l1 0 (Nat.zero_le _)
  simpa using this⟩
 exact ⟨c,h2,h1⟩
namespace drosstop_TopTranslations
theorem again {φ:Bool->Prop} (h:φ true):L1 φ:=L1_step φ ⟨true,q61_.spec,h⟩
theorem spec (x:drossref03_Recipe) (d:drossref16_Draft) (o:drossref17_Lists) (hx:RecOK x) (hd:DraftOK d) (hX:∀ c∈o.X,0<=c/\c<256) (hY:∀ c∈o.Y,0<=c/\c<256):C x d o true:=by
 obtain ⟨r,e1,e2⟩:=enter x d o (fun r=>r=true) (by
  refine ⟨tabF x 7,q53_.spec (most:=7) (by omega) hx,true,q61_.spec,?_⟩;rw [if_pos rfl];by_cases hr:x.Rows.length<=7
  ·have et:tabF x 7=(Adr x (x.Attrs % 6).toNat,true):=by unfold tabF;rw [if_pos hr]
   rw [et,if_pos rfl];have hA:(Adr x (x.Attrs % 6).toNat).Attrs.length=(x.Attrs % 6).toNat:=Ayi (by omega);have hT:TV (Adr x (x.Attrs % 6).toNat):=Ayj (by omega) hx (by omega);have h7:(Adr x (x.Attrs % 6).toNat).Rows.length<=10:=by simp only [Adr,List.length_map,List.length_zipIdx];omega
   have hn6:(Adr x (x.Attrs % 6).toNat).Attrs.length<6:=by omega
   generalize Adr x (x.Attrs % 6).toNat=t at *;by_cases h0:(t.Attrs.length:Int)=0
   ·rw [if_pos h0];exact again rfl
   rw [if_neg h0];by_cases hc20:20<(d.Codes.length:Int)
   ·rw [if_pos hc20];exact again rfl
   rw [if_neg hc20];by_cases h1:8<(o.X.length:Int)
   ·rw [if_pos h1];exact again rfl
   rw [if_neg h1];by_cases h2:8<(o.Y.length:Int)
   ·rw [if_pos h2];exact again rfl
   rw [if_neg h2];obtain ⟨c,c1,L,hc,hLl⟩:=q86_.spec (n:=t.Attrs.length) (x:=d) (by omega) (by omega) hd (by omega);have lX:=Awn (n:=t.Attrs.length) (l:=o.X);have lY:=Awn (n:=t.Attrs.length) (l:=o.Y);have kX:=Auw (n:=t.Attrs.length) (l:=o.X);have kY:=Auw (n:=t.Attrs.length) (l:=o.Y);have hof:=q85_.spec (n:=t.Attrs.length) (x:=o) hX hY (by omega);generalize memN t.Attrs.length o.X=X at *;generalize memN t.Attrs.length o.Y=Y at *;have oX:∀ i∈Ab2 [] X,i<t.Attrs.length:=fun i hi=>lX i (by simpa using Ap7.1 hi);have oY:∀ i∈Ab2 [] Y,i<t.Attrs.length:=fun i hi=>lY i (by simpa using Ap7.1 hi);have pX:=Ain (l:=X) (out:=[]);have pY:=Ain (l:=Y) (out:=[]);simp only [List.length_nil,Nat.zero_add] at pX pY;obtain ⟨v,v1,v2,v3,v4⟩:=q36_.spec hT hc h7;obtain ⟨w,w1,w2,w3,w4⟩:=q39_.spec (t:=t) (ds:=dlC c L) hT h7 (Be1 hc (by omega)) (by unfold dlC;split<;>simp);obtain ⟨u,u1,u2,u3,u4⟩:=q39_.spec (t:=t) (ds:=odL (Ab2 [] X) (Ab2 [] Y)) hT h7 (fun e he=>by
    obtain ⟨i,j,hi,hj,rfl⟩:=Aro.1 he
    exact Bc4 oX (by omega) oY (by omega) hj) (by have:=Bdk (X:=Ab2 [] X) (Y:=Ab2 [] Y) (by omega) (by omega);omega)
   refine ⟨c,c1,_,hof,v,v1,_,q44_.spec hT lX (by omega) lY (by omega) h7,_,q77_.spec hc (by omega),_,q87_.spec (n:=t.Attrs.length) (by omega) lX (by omega) lY (by omega),?_⟩;rw [if_pos v2,if_pos rfl,if_pos rfl,if_pos rfl];refine ⟨w,w1,u,u1,?_⟩;have su:u.1=vioL X Y t.Rows:=Aoq u3 (Avd (Ale hT.rows)) fun y=>by rw [u4 y,Bdl hT]
   have ll:∀ y∈vioL X Y t.Rows,y.length<=1000:=fun y hy=>by
    obtain ⟨a,b,_,_,rfl⟩:=Alt.1 hy;simp
   have len2:∀ y,VioC t c L y->y.length<=2:=fun y hy=>by
    rcases hy with ⟨_,_,_,_,rfl⟩ | ⟨_,_,_,_,_,_,rfl⟩<;>simp
   have vl:(vioL X Y t.Rows).length<=1000000:=by
    have go:∀ l:List api_Row,l.length<=10->(vioL X Y l).length<=l.length*10:=fun l=>by
     induction l with
     | nil=>intro _;simp [vioL]
     | cons a l ih=>
      intro hl;simp only [List.length_cons] at hl ⊢;have:=ih (by omega);have:=List.length_filter_le (badO X Y a) l;simp only [vioL,List.length_append,List.length_map];omega
    have:=go t.Rows h7;omega
   have loop:∀ (Q:List (List Int)) (k:Nat) (acc:List (List Int)),v.1.drop k=Q->StrL acc->acc.length<=k->(∀ y∈acc,y.length<=2)->(∀ y,y∈acc↔y∈v.1.take k)->L2 v (vioL X Y t.Rows,0) w u acc k fun r=>r=true:=by
    intro Q
    induction Q with
    | nil=>
     intro k acc hk hs hl h22 hm;have hge:=Abg hk;rw [List.take_of_length_le hge] at hm;have e:acc=w.1:=Aoq hs w3 fun y=>by rw [hm y,v3 y,w4 y,Bc5 hT hc]
     have hacc:acc.length<=110:=by
      have:∀ (a b:List (List Int)),StrL a->(∀ y,y∈a->y∈b)->a.length<=b.length:=fun a=>by
       induction a with
       | nil=>intro b _ _;simp
       | cons y a ih=>
        intro b hs hab;have hs':=List.pairwise_cons.1 hs;have:=ih (b.erase y) hs'.2 fun z hz=>by
         have hne:z≠y:=fun e=>by
          have:=hs'.1 z hz;rw [e,Ads] at this;cases this
         exact (List.mem_erase_of_ne hne).2 (hab z (by simp [hz]))
        rw [List.length_erase_of_mem (hab y (by simp))] at this;have hp:=List.length_pos_of_mem (hab y (by simp));simp only [List.length_cons];omega
      exact Nat.le_trans (this acc v.1 hs fun y hy=>(hm y).1 hy) v4
     apply L2_step;rw [if_neg (by omega),if_pos w2,if_pos u2,← e,su];refine ⟨_,q60_.same (by omega) (fun y hy=>by have:=h22 y hy;omega),?_⟩;rw [if_pos rfl];exact ⟨_,q60_.same vl ll,rfl⟩
    | cons y Q ih=>
     intro k acc hk hs hl h22 hm;have hlt:=Abh hk;have hy:=len2 y ((v3 y).1 (List.mem_of_getElem? (Aas hk)));obtain ⟨p,p1,p2,p3,p4⟩:=q70_.spec (l:=acc) (x:=y) (by omega) (by omega) (fun z hz=>by have:=h22 z hz;omega) hs;apply L2_step;rw [if_pos (by omega)];refine ⟨y,Ac0 hk,p,p1,?_⟩;rw [Aa6 (by omega)];refine ih (k+1) p (Aah hk) p2 (by omega) (fun z hz=>?_) fun z=>?_
     ·rcases (p4 z).1 hz with h | rfl
      ·exact h22 z h
      ·exact hy
     ·rw [p4 z,hm z,List.take_add_one,Aas hk];simp only [Option.toList_some,List.mem_append,List.mem_singleton]
   exact loop v.1 0 [] rfl List.Pairwise.nil (by simp) (by simp) fun y=>by simp
  ·have et:tabF x 7=(⟨⟨#[]⟩,[],[]⟩,false):=by unfold tabF;rw [if_neg hr]
   rw [et,if_neg (by decide)]
   exact again rfl)
 subst e1;exact e2
theorem law {xs:List D} (hx:Aja env.P Ahp Ahq xs):Ret env Aho xs (.lit (.bool true)) []:=
 Ahh (fun x0 x1 x2 h0 h1 h2=>spec x0 x1 x2 ⟨Ajr h0.1,Ajr h0.2.1,fun r hr c hc=>Ajr ((h0.2.2.2 r hr).2 c hc)⟩ ⟨Ajr h1.1,Ajr h1.2.1,fun c hc=>Ajr (h1.2.2.2 c hc)⟩ (fun c hc=>Ajr (h2.1.2 c hc)) (fun c hc=>Ajr (h2.2.2 c hc))) hx
end drosstop_TopTranslations
end Go.Own
