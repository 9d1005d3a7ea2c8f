/- What the functions answer. No conditions. -/
import Derived.Test.YtmiedlcblpiemaaDoorBasisHoldsLaw13
import Derived.Test.YtmiedlcblpiemaaDoorBasisHoldsLaw14
import Derived.Test.YtmiedlcblpiemaaDoorBasisHoldsLaw2
import Derived.Test.YtmiedlcblpiemaaDoorBasisHoldsLaw7
set_option linter.all false
namespace Go.Own
namespace q16_
end q16_
theorem Awo {n:Nat} (hn:n<=16):2^n<=65536/\0<2^n:=⟨Nat.pow_le_pow_right (n:=2) (by omega) hn,Nat.pow_pos (by omega)⟩
def keyR (t:api_Table) (m i:Nat):ByteArray:=Abd (pick ((t.Rows[i]?).map (·.Values) |>.getD []) m)
theorem Ad4 {t:api_Table} {m i:Nat} (hi:i<t.Rows.length):keyR t m i=Abd (pick (t.Rows[i]).Values m):=by
 unfold keyR;rw [List.getElem?_eq_getElem hi];rfl
section
variable {t:api_Table}
theorem Bbh {m i k:Nat} (ht:TV t) (hm:m<2^32) (hi:i<t.Rows.length) (hk:k<t.Rows.length):pick (t.Rows[i]).Values m=pick (t.Rows[k]).Values m↔∀ a,m.testBit a=true->EqA t i k a:=by
 rw [← Atw ht hm hi hk];unfold Ah5;rw [List.getElem?_map,List.getElem?_map,List.getElem?_eq_getElem hi,List.getElem?_eq_getElem hk];simp
theorem Ajd {m i:Nat} (ht:TV t) (hn:TNum t) (hi:i<t.Rows.length):∀ v∈pick (t.Rows[i]).Values m,Aal v=true/\Ahz v:=fun v hv=>
 ⟨ht.val (List.getElem_mem hi) v (Ak7 v hv),hn _ (List.getElem_mem hi) v (Ak7 v hv)⟩
theorem Aqh {m i k:Nat} (ht:TV t) (hi:i<t.Rows.length) (hk:k<t.Rows.length):(pick (t.Rows[i]).Values m).length=(pick (t.Rows[k]).Values m).length:=
 Axt (by rw [ht.len (List.getElem_mem hi),ht.len (List.getElem_mem hk)])
theorem Agk {m i k:Nat} (ht:TV t) (hn:TNum t) (hm:m<2^32) (hi:i<t.Rows.length) (hk:k<t.Rows.length):keyR t m i=keyR t m k↔∀ a,m.testBit a=true->EqA t i k a:=by
 rw [Ad4 hi,Ad4 hk,Arj (Aqh ht hi hk) (Ajd ht hn hi) (Ajd ht hn hk),Bbh ht hm hi hk]
theorem Alb {l m:List api_Value}:Abd l++Abd m=Abd (l++m):=by
 rw [← Ahb,Am6];unfold Abd;rw [Aq0];simp [bstr,Adv,List.flatMap_append]
theorem Bb7 {p q i k:Nat} (ht:TV t) (hn:TNum t) (hi:i<t.Rows.length) (hk:k<t.Rows.length) (h:keyR t p i++keyR t q i=keyR t p k++keyR t q k):keyR t p i=keyR t p k/\keyR t q i=keyR t q k:=by
 rw [Ad4 hi,Ad4 hi,Ad4 hk,Ad4 hk] at *;rw [Alb,Alb] at h;have l1:=Aqh (m:=p) ht hi hk;have l2:=Aqh (m:=q) ht hi hk;have:=(Arj (by rw [List.length_append,List.length_append,l1,l2]) (fun v hv=>by
  rcases List.mem_append.1 hv with hv | hv
  ·exact Ajd ht hn hi v hv
  ·exact Ajd ht hn hi v hv) (fun v hv=>by
  rcases List.mem_append.1 hv with hv | hv
  ·exact Ajd ht hn hk v hv
  ·exact Ajd ht hn hk v hv)).1 h
 obtain ⟨h1,h2⟩:=List.append_inj this l1;rw [h1,h2];exact ⟨rfl,rfl⟩
def grpK (t:api_Table) (l:Nat) (s:ByteArray):List Nat:=(List.range t.Rows.length).filter fun i=>keyR t l i == s
theorem Ae7 {l i:Nat} {s:ByteArray}:i∈grpK t l s↔i<t.Rows.length/\keyR t l i=s:=by
 unfold grpK;rw [List.mem_filter,List.mem_range,Ac0]
def okG (t:api_Table) (l p q:Nat) (s:ByteArray):Prop:=(dd ((grpK t l s).map (keyR t p))).length*(dd ((grpK t l s).map (keyR t q))).length=(dd ((grpK t l s).map fun i=>keyR t p i++keyR t q i)).length
theorem Bbe {l r:Nat} (ht:TV t) (hn:TNum t) (hl:l<2^t.Attrs.length) (hr:r<2^t.Attrs.length):(∀ i,i<t.Rows.length->okG t l (Abj r l) (Abj (2^t.Attrs.length-1) (l ||| r)) (keyR t l i))↔MvP t l r:=by
 have na:=ht.na;have hp:=Awo na;have hR:Abj r l<2^32:=Nat.lt_of_le_of_lt Ag1 (by omega);have hS:Abj (2^t.Attrs.length-1) (l ||| r)<2^32:=Nat.lt_of_le_of_lt Ag1 (by omega);have all:∀ s,okG t l (Abj r l) (Abj (2^t.Attrs.length-1) (l ||| r)) s↔∀ x∈grpK t l s,∀ y∈grpK t l s,∃ z∈grpK t l s,keyR t (Abj r l) z=keyR t (Abj r l) x/\keyR t (Abj (2^t.Attrs.length-1) (l ||| r)) z=keyR t (Abj (2^t.Attrs.length-1) (l ||| r)) y:=fun s=>
  Axx fun x hx y hy h=>Bb7 ht hn (Ae7.1 hx).1 (Ae7.1 hy).1 h
 have bitS:∀ a,(Abj (2^t.Attrs.length-1) (l ||| r)).testBit a=true↔a<t.Attrs.length/\(l ||| r).testBit a=false:=fun a=>by
  rw [Af6,Nat.testBit_two_pow_sub_one,Bool.and_eq_true,decide_eq_true_eq,Bool.not_eq_true']
 constructor
 ·intro h i k hi hk he;have hki:=(Agk ht hn (show l<2^32 by omega) hi hk).2 he;obtain ⟨j,hj,e1,e2⟩:=(all _).1 (h i hi) i (Ae7.2 ⟨hi,rfl⟩) k (Ae7.2 ⟨hk,hki.symm⟩);obtain ⟨hjl,hjk⟩:=Ae7.1 hj;refine ⟨j,hjl,fun a ha=>?_,fun a ha hb=>(Agk ht hn hS hjl hk).1 e2 a ((bitS a).2 ⟨ha,hb⟩)⟩;by_cases hla:l.testBit a=true
  ·exact (Agk ht hn (show l<2^32 by omega) hjl hi).1 hjk a hla
  ·refine (Agk ht hn hR hjl hi).1 e1 a ?_;rw [Nat.testBit_or,Bool.or_eq_true] at ha;rw [Af6,(ha.resolve_left hla)];simpa using hla
 ·intro h i hi;refine (all _).2 fun x hx y hy=>?_;obtain ⟨hxl,hxk⟩:=Ae7.1 hx;obtain ⟨hyl,hyk⟩:=Ae7.1 hy;obtain ⟨j,hjl,e1,e2⟩:=h x y hxl hyl ((Agk ht hn (show l<2^32 by omega) hxl hyl).1 (hxk.trans hyk.symm));refine ⟨j,Ae7.2 ⟨hjl,?_⟩,(Agk ht hn hR hjl hxl).2 fun a ha=>e1 a ?_,(Agk ht hn hS hjl hyl).2 fun a ha=>?_⟩
  ·rw [← hxk];exact (Agk ht hn (show l<2^32 by omega) hjl hxl).2 fun a ha=>e1 a (by rw [Nat.testBit_or,ha];rfl)
  ·rw [Af6,Bool.and_eq_true] at ha;rw [Nat.testBit_or,ha.1,Bool.or_true]
  ·obtain ⟨h1,h2⟩:=(bitS a).1 ha;exact e2 a h1 h2
end
theorem Azx {n:Nat} (hn:n<=16):IntKind.wrap .u32 (shlw .u32 1 (n:Int)-1)=((2^n-1:Nat):Int):=by
 have hp:=Awo hn;have e:shlw .u32 1 (n:Int)=((2^n:Nat):Int):=Au2 (k:=.u32) (by simp only [top];omega);rw [e,show (((2^n:Nat):Int)-1)=((2^n-1:Nat):Int) by omega];exact Aez (k:=.u32) (by simp only [top];omega)
theorem Alm {E:Env} {f:Nat} {p:List D->Option (D×List D)} {q:List D->Ask} {ds:List D} {r:D} {outs:List D} (h1:E.prim f=some p) (h2:p ds=none) (h3:E.hand f=some q) (h4:∃ N,∀ n,N<=n->runAsk (Ab2 E n) (q ds)=some (r,outs)):Ret E f ds r outs:=by
 obtain ⟨N,hN⟩:=h4;refine ⟨N+1,fun m hm=>?_⟩;obtain ⟨k,rfl⟩:∃ k,m=k+1:=⟨m-1,by omega⟩
 simp only [Ab2,h1,h2,h3];exact hN k (by omega)
theorem Azi {v:api_Value}:keyW v=Abd [v]:=by
 unfold keyW Ai6 Abd bstr Adv;simp [b8]
theorem Aoy {l:List api_Value}:(Abd l).size=(Adv l).length:=by
 show (Abd l).data.size=_;unfold Abd bstr;rw [List.size_toArray,List.length_map]
theorem Ala:∀ {l:List api_Value},(∀ v∈l,Aal v=true)->(Adv l).length<=403*l.length
 | [],_=>by simp [Adv]
 | a::l,h=>by
  have h1:=Ala (l:=l) fun v hv=>h v (by simp [hv]);have h2:=Atm (h a (by simp));simp only [Adv,List.flatMap_cons,List.length_append,List.length_cons] at h1 ⊢;omega
theorem Ato {l:List api_Value} {n:Nat} (h:∀ v∈l,Aal v=true):(Abd (pick l n)).size<=12896:=by
 rw [Aoy];have h1:=Ala (l:=pick l n) fun v hv=>h v (Ak7 v hv);have h2:=Atx (l:=l) (n:=n);omega
theorem t32H {a:Nat} (h:a<2^32):a<2^top .u32:=by simpa [top] using h
namespace q63_
theorem spec {t:api_Table} (ht:TV t) {r:api_Row} (hr:r∈t.Rows) {n:Nat} (hn:n<2^t.Attrs.length):C r n (Abd (pick r.Values n)):=by
 have hn32:n<2^32:=Nat.lt_of_lt_of_le hn (Nat.pow_le_pow_right (by decide) (by have:=ht.na;omega));have hl:=Agx (n:=n);obtain ⟨q,h1,h2⟩:=enter r n (fun q=>q=Abd (pick r.Values n)) (by
  refine ⟨_,q43_.spec hn32,?_⟩;have loop:∀ j,j<=(Aau n).length->L1 r (Abd (((Aau n).take j).filterMap fun i=>r.Values[i]?)) ((Aau n).map fun (i:Nat)=>(i:Int)) (j:Int) fun q=>q=Abd (pick r.Values n):=by
   refine down ?_ ?_
   ·apply L1_step;rw [List.length_map,if_neg (by omega),List.take_length];rfl
   ·intro j hj h;apply L1_step;rw [List.length_map,if_pos (by omega)];have hget:=List.getElem?_eq_getElem hj;generalize (Aau n)[j]=i at hget;have hi:=(Ace hn32).1 (List.mem_of_getElem? hget);have hilt:i<t.Attrs.length:=by
     false_or_by_contra
     rename_i hh;rw [Nat.testBit_lt_two_pow (Nat.lt_of_lt_of_le hn (Nat.pow_le_pow_right (by decide) (by omega)))] at hi;cases hi
    have hrl:=ht.len hr;have hv:=List.getElem?_eq_getElem (l:=r.Values) (i:=i) (by omega);generalize r.Values[i]'(by omega)=v at hv;have hval:=ht.val hr v (List.mem_of_getElem? hv);refine ⟨(i:Int),by rw [Anv,List.getElem?_map,hget];rfl,v,Acl hv,(keyW v,0),q62_.spec hval,?_,?_⟩
    ·have a1:=Ala (l:=((Aau n).take j).filterMap fun i=>r.Values[i]?) (fun v hv=>by
      obtain ⟨i,_,hi⟩:=List.mem_filterMap.1 hv
      exact ht.val hr v (List.mem_of_getElem? hi))
     have a2:(((Aau n).take j).filterMap fun i=>r.Values[i]?).length<=32:=Nat.le_trans (List.length_filterMap_le _ _) (by rw [List.length_take];omega);have a3:=Atm hval;rw [Aoy,Ay2];omega
    ·rw [Aat (by omega)];have e:(((Aau n).take (j+1)).filterMap fun i=>r.Values[i]?)=(((Aau n).take j).filterMap fun i=>r.Values[i]?)++[v]:=by
      rw [List.take_add_one,hget,List.filterMap_append];simp [hv]
     rw [e] at h;simp only [Azi,Alb];exact h
  have:=loop 0 (Nat.zero_le _)
  simpa [Abd,Adv,bstr] using this)
 rw [← h1];exact h2
end q63_
def row3 (l p q:Nat) (r:api_Row):Key3:=(Abd (pick r.Values l),Abd (pick r.Values p),Abd (pick r.Values q))
theorem Asx {t:api_Table} (ht:TV t) {l p q:Nat} (hl:l<2^t.Attrs.length) (hp:p<2^t.Attrs.length) (hq:q<2^t.Attrs.length) (k:List Key3->Ask):∀ (rs:List api_Row),(∀ r∈rs,r∈t.Rows)->∃ N,∀ m,N<=m->∀ acc,runAsk (Ab2 env m) (Af2 Hol.keyF l p q k (rs.map Aa2) acc)=runAsk (Ab2 env m) (k (acc++rs.map (row3 l p q)))
 | [],_=>⟨0,fun m _ acc=>by simp [Af2]⟩
 | r::rs,h=>by
  obtain ⟨N,hN⟩:=Asx ht hl hp hq k rs fun r hr=>h r (by simp [hr]);have hr:=h r (by simp);obtain ⟨N1,h1⟩:=q63_.spec ht hr hl;obtain ⟨N2,h2⟩:=q63_.spec ht hr hp;obtain ⟨N3,h3⟩:=q63_.spec ht hr hq;refine ⟨N+N1+N2+N3,fun m hm acc=>?_⟩;have k1:Ab2 env m Hol.keyF [.agg [.lit (.int .i64 r.ID),.sl (r.Values.map Aa1)],.lit (.int .u32 l)]=some (.lit (.string (Abd (pick r.Values l))),[]):=h1 m (by omega);have k2:Ab2 env m Hol.keyF [.agg [.lit (.int .i64 r.ID),.sl (r.Values.map Aa1)],.lit (.int .u32 p)]=some (.lit (.string (Abd (pick r.Values p))),[]):=h2 m (by omega);have k3:Ab2 env m Hol.keyF [.agg [.lit (.int .i64 r.ID),.sl (r.Values.map Aa1)],.lit (.int .u32 q)]=some (.lit (.string (Abd (pick r.Values q))),[]):=h3 m (by omega);have z1:=Ato (l:=r.Values) (n:=p) fun v hv=>ht.val hr v hv;have z2:=Ato (l:=r.Values) (n:=q) fun v hv=>ht.val hr v hv;have e:(r::rs).map Aa2=[.lit (.int .i64 r.ID),.sl (r.Values.map Aa1)]::rs.map Aa2:=rfl;rw [e];simp only [Af2,runAsk,k1,k2,k3];rw [if_pos (by omega),hN m (by omega)];simp [row3]
theorem Azt {t:api_Table} {l p q:Nat}:okH (t.Rows.map (row3 l p q))=true↔∀ i,i<t.Rows.length->okG t l p q (keyR t l i):=by
 have e:t.Rows.map (row3 l p q)=(List.range t.Rows.length).map fun i=>(keyR t l i,keyR t p i,keyR t q i):=by
  apply List.ext_getElem
  ·simp
  ·intro i h1 h2;simp only [List.getElem_map,List.getElem_range];rw [List.length_map] at h1;rw [Ad4 h1,Ad4 h1,Ad4 h1];rfl
 have eg:∀ s,grpH (t.Rows.map (row3 l p q)) s=(grpK t l s).map fun i=>(keyR t l i,keyR t p i,keyR t q i):=fun s=>by
  rw [e];unfold grpH grpK;rw [List.filter_map];exact congrArg _ (List.filter_congr fun i _=>Eq.refl (keyR t l i == s))
 have eo:∀ s,okK (t.Rows.map (row3 l p q)) s↔okG t l p q s:=fun s=>by
  unfold okK set1 set2 set3 okG;rw [eg];simp only [List.map_map];exact Iff.rfl
 rw [Aqg];constructor
 ·intro h i hi;rw [Ad4 hi];have hm:=h (row3 l p q t.Rows[i]) (List.mem_map.2 ⟨t.Rows[i],List.getElem_mem hi,rfl⟩);simp only [row3] at hm;exact (eo _).1 hm
 ·intro h x hx;obtain ⟨r,hr,rfl⟩:=List.mem_map.1 hx;obtain ⟨i,hi,rfl⟩:=List.getElem_of_mem hr;have:=h i hi;rw [Ad4 hi] at this;simp only [row3];exact (eo _).2 this
noncomputable def Agj (t:api_Table) (m:api_MVD):Bool×Int:=if Ad8 t=0 then Aj4 t m else (false,Ad8 t)
theorem q60_.spec {t:api_Table} (hn:TNum t) {m:api_MVD} (hl:U32 m.Lhs) (hr:U32 m.Rhs):q60_.C t m (Agj t m):=by
 obtain ⟨N,hN⟩:=q59_.spec (t:=t);have kv:∀ j,N<=j->Ab2 env j Hol.valF [.agg [.lit (.string t.Name),.sl (t.Attrs.map eS),.sl (t.Rows.map Aa2)]]=some (.lit (.int .i64 (Ad8 t)),[]):=fun j hj=>hN j hj;by_cases h0:Ad8 t=0
 ·have ht:=Akc.1 h0;have na:=ht.na;have pw:=Awo na;have p16:2^t.Attrs.length<=2^16:=Nat.pow_le_pow_right (by decide) na;have p0:=Nat.two_pow_pos t.Attrs.length;have eor:=orI hl hr;have hor:sN m.Lhs ||| sN m.Rhs<2^32:=Nat.or_lt_two_pow hl.lt hr.lt
  have eshr:shrw .u32 (bOr .u32 m.Lhs m.Rhs) ((t.Attrs.map eS).length:Int)=(((sN m.Lhs ||| sN m.Rhs) / 2^t.Attrs.length:Nat):Int):=by
   rw [List.length_map,eor];exact Ao0 (t32H hor)
  by_cases hin:inU t.Attrs.length m.Lhs m.Rhs=true
  ·have hlt:=Aor.1 hin;have hl2:sN m.Lhs<2^t.Attrs.length:=Nat.lt_of_le_of_lt Nat.left_le_or hlt;have hr2:sN m.Rhs<2^t.Attrs.length:=Nat.lt_of_le_of_lt Nat.right_le_or hlt;have hp2:Abj (sN m.Rhs) (sN m.Lhs)<2^t.Attrs.length:=Nat.lt_of_le_of_lt Ag1 hr2;have hq2:Abj (2^t.Attrs.length-1) (sN m.Lhs ||| sN m.Rhs)<2^t.Attrs.length:=Nat.lt_of_le_of_lt Ag1 (by omega);have e1:Adr m.Lhs m.Rhs=((Abj (sN m.Rhs) (sN m.Lhs):Nat):Int):=by
    unfold Adr
    conv=>lhs;rw [hl.eq,hr.eq]
    exact Air hr.top hl.top
   have e2:Aex ((t.Attrs.map eS).length:Int) m.Lhs m.Rhs=((Abj (2^t.Attrs.length-1) (sN m.Lhs ||| sN m.Rhs):Nat):Int):=by
    unfold Aex;rw [List.length_map,eor,Azx na];exact Air (t32H (by omega)) (t32H hor)
   obtain ⟨N2,hN2⟩:=Asx ht hl2 hp2 hq2 (fun L=>.ret (some (resH (okH L) 0,[]))) t.Rows fun r hr=>hr;refine Alm (p:=fun _=>none) (q:=Acj Hol.valF Hol.keyF) (by kernel_rfl) rfl (by kernel_rfl) ⟨N+N2,fun j hj=>?_⟩;simp only [Acj,runAsk,kv j (by omega),h0,if_true];rw [if_pos (by rw [eshr,Nat.div_eq_of_lt hlt];rfl),if_pos (by rw [List.length_map];have:=ht.nr;omega),e1,e2];have:=hN2 j (by omega) [];rw [← hl.eq] at this;rw [this];simp only [runAsk,List.nil_append];have hok:okH (t.Rows.map (row3 (sN m.Lhs) (Abj (sN m.Rhs) (sN m.Lhs)) (Abj (2^t.Attrs.length-1) (sN m.Lhs ||| sN m.Rhs))))=mvB t (sN m.Lhs) (sN m.Rhs):=by
    rw [Bool.eq_iff_iff,Azt,Aqf];exact Bbe ht hn hl2 hr2
   rw [hok];unfold Agj Aj4;rw [if_pos h0,if_pos hin];rfl
  ·have hge:2^t.Attrs.length<=sN m.Lhs ||| sN m.Rhs:=Nat.le_of_not_lt fun h=>hin (Aor.2 h)
   refine Alm (p:=fun _=>none) (q:=Acj Hol.valF Hol.keyF) (by kernel_rfl) rfl (by kernel_rfl) ⟨N,fun j hj=>?_⟩;simp only [Acj,runAsk,kv j (by omega),h0,if_true];rw [if_neg (by
    rw [eshr];have:0<(sN m.Lhs ||| sN m.Rhs) / 2^t.Attrs.length:=Nat.div_pos hge p0
    omega)]
   unfold Agj Aj4;rw [if_pos h0,if_neg hin];rfl
 ·refine Alm (p:=fun _=>none) (q:=Acj Hol.valF Hol.keyF) (by kernel_rfl) rfl (by kernel_rfl) ⟨N,fun j hj=>?_⟩;simp only [Acj,runAsk,kv j (by omega)];rw [if_neg h0];unfold Agj;rw [if_neg h0];rfl
theorem q39_.any {t:api_Table} {m:api_MVD} (hl:U32 m.Lhs) (hr:U32 m.Rhs):q39_.C t m (Agj t m):=by
 by_cases h0:Ad8 t=0
 ·unfold Agj;rw [if_pos h0];exact q39_.spec (Akc.1 h0) hl hr
 ·obtain ⟨r,h1,h2⟩:=q39_.enter t m (fun r=>r=Agj t m) (by
   refine ⟨_,q35_.spec,?_⟩;unfold Agj
   rw [if_neg h0,if_neg h0])
  rw [← h1];exact h2
namespace drosslaw13_BasisHolds
theorem numOf {t:api_Table} (h:Afj t):TNum t:=fun r hr v hv=>Bc2 ((h.2.2.2 r hr).2.2 v hv).2.1
theorem again {φ:Bool->Prop} (h:φ true):L1 φ:=L1_step φ ⟨true,q40_.spec,h⟩
theorem spec (t:api_Table) (m:api_MVD) (hn:TNum t) (hl:U32 m.Lhs) (hr:U32 m.Rhs):C t m true:=by
 obtain ⟨r,e1,e2⟩:=enter t m (fun r=>r=true) (by
  refine ⟨true,q40_.spec,?_⟩;rw [if_pos rfl];by_cases h1:12<(t.Rows.length:Int)
  ·rw [if_pos h1];exact again rfl
  rw [if_neg h1];by_cases h2:8<(t.Attrs.length:Int)
  ·rw [if_pos h2];exact again rfl
  rw [if_neg h2];refine ⟨_,q60_.spec hn hl hr,_,q39_.any hl hr,?_⟩
  rw [if_pos rfl];simp)
 subst e1;exact e2
theorem law {xs:List D} (hx:Ai3 env.P Ahx Ahy xs):Ret env Ahw xs (.lit (.bool true)) []:=
 Ahe (fun x0 x1 h0 h1=>spec x0 x1 (numOf h0) (Ayj h1.1) (Ayj h1.2)) hx
end drosslaw13_BasisHolds
end Go.Own
