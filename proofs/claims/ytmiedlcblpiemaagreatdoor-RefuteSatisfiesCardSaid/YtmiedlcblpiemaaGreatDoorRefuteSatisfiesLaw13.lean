/- What the functions answer. No conditions. -/
import Derived.Test.YtmiedlcblpiemaaGreatDoorRefuteSatisfiesLaw10
import Derived.Test.YtmiedlcblpiemaaGreatDoorRefuteSatisfiesLaw8
import Derived.Test.YtmiedlcblpiemaaGreatDoorRefuteSatisfiesLaw12
import Derived.Test.YtmiedlcblpiemaaGreatDoorRefuteSatisfiesLaw2
import Derived.Test.YtmiedlcblpiemaaGreatDoorRefuteSatisfiesLaw6
set_option linter.all false
namespace Go.Own
theorem Azy {n:Nat} (hn:n<=16):2^n<=65536/\0<2^n:=⟨Nat.pow_le_pow_right (n:=2) (by omega) hn,Nat.pow_pos (by omega)⟩
def keyR (t:api_Table) (m i:Nat):ByteArray:=Aav (pick ((t.Rows[i]?).map (·.Values) |>.getD []) m)
theorem Ady {t:api_Table} {m i:Nat} (hi:i<t.Rows.length):keyR t m i=Aav (pick (t.Rows[i]).Values m):=by
 unfold keyR;rw [List.getElem?_eq_getElem hi];rfl
section
variable {t:api_Table}
theorem Bgu {m i k:Nat} (ht:TV t) (hm:m<2^32) (hi:i<t.Rows.length) (hk:k<t.Rows.length):pick (t.Rows[i]).Values m=pick (t.Rows[k]).Values m↔∀ a,m.testBit a=true->EqA t i k a:=by
 rw [← Awj ht hm hi hk];unfold Ad3;rw [List.getElem?_map,List.getElem?_map,List.getElem?_eq_getElem hi,List.getElem?_eq_getElem hk];simp
theorem Al2 {m i:Nat} (ht:TV t) (hn:TNum t) (hi:i<t.Rows.length):∀ v∈pick (t.Rows[i]).Values m,Aap v=true/\Ajo v:=fun v hv=>
 ⟨ht.val (List.getElem_mem hi) v (Af4 v hv),hn _ (List.getElem_mem hi) v (Af4 v hv)⟩
theorem Asp {m i k:Nat} (ht:TV t) (hi:i<t.Rows.length) (hk:k<t.Rows.length):(pick (t.Rows[i]).Values m).length=(pick (t.Rows[k]).Values m).length:=
 Avr (by rw [ht.len (List.getElem_mem hi),ht.len (List.getElem_mem hk)])
theorem Ai9 {m i k:Nat} (ht:TV t) (hn:TNum t) (hm:m<2^32) (hi:i<t.Rows.length) (hk:k<t.Rows.length):keyR t m i=keyR t m k↔∀ a,m.testBit a=true->EqA t i k a:=by
 rw [Ady hi,Ady hk,An2 (Asp ht hi hk) (Al2 ht hn hi) (Al2 ht hn hk),Bgu ht hm hi hk]
theorem An3 {l m:List api_Value}:Aav l++Aav m=Aav (l++m):=by
 rw [← Aj0,Ao7];unfold Aav;rw [As4];simp [bstr,Acm,List.flatMap_append]
theorem Bgl {p q i k:Nat} (ht:TV t) (hn:TNum t) (hi:i<t.Rows.length) (hk:k<t.Rows.length) (h:keyR t p i++keyR t q i=keyR t p k++keyR t q k):keyR t p i=keyR t p k/\keyR t q i=keyR t q k:=by
 rw [Ady hi,Ady hi,Ady hk,Ady hk] at *;rw [An3,An3] at h;have l1:=Asp (m:=p) ht hi hk;have l2:=Asp (m:=q) ht hi hk;have:=(An2 (by rw [List.length_append,List.length_append,l1,l2]) (fun v hv=>by
  rcases List.mem_append.1 hv with hv | hv
  ·exact Al2 ht hn hi v hv
  ·exact Al2 ht hn hi v hv) (fun v hv=>by
  rcases List.mem_append.1 hv with hv | hv
  ·exact Al2 ht hn hk v hv
  ·exact Al2 ht hn hk v hv)).1 h
 obtain ⟨h1,h2⟩:=List.append_inj this l1;rw [h1,h2];exact ⟨rfl,rfl⟩
def grpK (t:api_Table) (l:Nat) (s:ByteArray):List Nat:=(List.range t.Rows.length).filter fun i=>keyR t l i == s
theorem Aez {l i:Nat} {s:ByteArray}:i∈grpK t l s↔i<t.Rows.length/\keyR t l i=s:=by
 unfold grpK;rw [List.mem_filter,List.mem_range,Acn]
def okG (t:api_Table) (l p q:Nat) (s:ByteArray):Prop:=(dd ((grpK t l s).map (keyR t p))).length*(dd ((grpK t l s).map (keyR t q))).length=(dd ((grpK t l s).map fun i=>keyR t p i++keyR t q i)).length
theorem Bgr {l r:Nat} (ht:TV t) (hn:TNum t) (hl:l<2^t.Attrs.length) (hr:r<2^t.Attrs.length):(∀ i,i<t.Rows.length->okG t l (Ac0 r l) (Ac0 (2^t.Attrs.length-1) (l ||| r)) (keyR t l i))↔MvP t l r:=by
 have na:=ht.na;have hp:=Azy na;have hR:Ac0 r l<2^32:=Nat.lt_of_le_of_lt Ahm (by omega);have hS:Ac0 (2^t.Attrs.length-1) (l ||| r)<2^32:=Nat.lt_of_le_of_lt Ahm (by omega);have all:∀ s,okG t l (Ac0 r l) (Ac0 (2^t.Attrs.length-1) (l ||| r)) s↔∀ x∈grpK t l s,∀ y∈grpK t l s,∃ z∈grpK t l s,keyR t (Ac0 r l) z=keyR t (Ac0 r l) x/\keyR t (Ac0 (2^t.Attrs.length-1) (l ||| r)) z=keyR t (Ac0 (2^t.Attrs.length-1) (l ||| r)) y:=fun s=>
  Bbg fun x hx y hy h=>Bgl ht hn (Aez.1 hx).1 (Aez.1 hy).1 h
 have bitS:∀ a,(Ac0 (2^t.Attrs.length-1) (l ||| r)).testBit a=true↔a<t.Attrs.length/\(l ||| r).testBit a=false:=fun a=>by
  rw [Agc,Nat.testBit_two_pow_sub_one,Bool.and_eq_true,decide_eq_true_eq,Bool.not_eq_true']
 constructor
 ·intro h i k hi hk he;have hki:=(Ai9 ht hn (show l<2^32 by omega) hi hk).2 he;obtain ⟨j,hj,e1,e2⟩:=(all _).1 (h i hi) i (Aez.2 ⟨hi,rfl⟩) k (Aez.2 ⟨hk,hki.symm⟩);obtain ⟨hjl,hjk⟩:=Aez.1 hj;refine ⟨j,hjl,fun a ha=>?_,fun a ha hb=>(Ai9 ht hn hS hjl hk).1 e2 a ((bitS a).2 ⟨ha,hb⟩)⟩;by_cases hla:l.testBit a=true
  ·exact (Ai9 ht hn (show l<2^32 by omega) hjl hi).1 hjk a hla
  ·refine (Ai9 ht hn hR hjl hi).1 e1 a ?_;rw [Nat.testBit_or,Bool.or_eq_true] at ha;rw [Agc,(ha.resolve_left hla)];simpa using hla
 ·intro h i hi;refine (all _).2 fun x hx y hy=>?_;obtain ⟨hxl,hxk⟩:=Aez.1 hx;obtain ⟨hyl,hyk⟩:=Aez.1 hy;obtain ⟨j,hjl,e1,e2⟩:=h x y hxl hyl ((Ai9 ht hn (show l<2^32 by omega) hxl hyl).1 (hxk.trans hyk.symm));refine ⟨j,Aez.2 ⟨hjl,?_⟩,(Ai9 ht hn hR hjl hxl).2 fun a ha=>e1 a ?_,(Ai9 ht hn hS hjl hyl).2 fun a ha=>?_⟩
  ·rw [← hxk];exact (Ai9 ht hn (show l<2^32 by omega) hjl hxl).2 fun a ha=>e1 a (by rw [Nat.testBit_or,ha];rfl)
  ·rw [Agc,Bool.and_eq_true] at ha;rw [Nat.testBit_or,ha.1,Bool.or_true]
  ·obtain ⟨h1,h2⟩:=(bitS a).1 ha;exact e2 a h1 h2
end
namespace q60_
end q60_
namespace q42_
end q42_
theorem Be0 {n:Nat} (hn:n<=16):IntKind.wrap .u32 (shlw .u32 1 (n:Int)-1)=((2^n-1:Nat):Int):=by
 have hp:=Azy hn;have e:shlw .u32 1 (n:Int)=((2^n:Nat):Int):=Awp (k:=.u32) (by simp only [top];omega);rw [e,show (((2^n:Nat):Int)-1)=((2^n-1:Nat):Int) by omega];exact Afa (k:=.u32) (by simp only [top];omega)
theorem Anj {E:Env} {f:Nat} {p:List D->Option (D×List D)} {q:List D->Ask} {ds:List D} {r:D} {outs:List D} (h1:E.prim f=some p) (h2:p ds=none) (h3:E.hand f=some q) (h4:∃ N,∀ n,N<=n->runAsk (Abc E n) (q ds)=some (r,outs)):Ret E f ds r outs:=by
 obtain ⟨N,hN⟩:=h4;refine ⟨N+1,fun m hm=>?_⟩;obtain ⟨k,rfl⟩:∃ k,m=k+1:=⟨m-1,by omega⟩
 simp only [Abc,h1,h2,h3];exact hN k (by omega)
theorem Bdh {v:api_Value}:keyW v=Aav [v]:=by
 unfold keyW Aju Aav bstr Acm;simp [b8]
theorem Aqz {l:List api_Value}:(Aav l).size=(Acm l).length:=by
 show (Aav l).data.size=_;unfold Aav bstr;rw [List.size_toArray,List.length_map]
theorem An1:∀ {l:List api_Value},(∀ v∈l,Aap v=true)->(Acm l).length<=403*l.length
 | [],_=>by simp [Acm]
 | a::l,h=>by
  have h1:=An1 (l:=l) fun v hv=>h v (by simp [hv]);have h2:=Alw (h a (by simp));simp only [Acm,List.flatMap_cons,List.length_append,List.length_cons] at h1 ⊢;omega
theorem Aw6 {l:List api_Value} {n:Nat} (h:∀ v∈l,Aap v=true):(Aav (pick l n)).size<=12896:=by
 rw [Aqz];have h1:=An1 (l:=pick l n) fun v hv=>h v (Af4 v hv);have h2:=Awk (l:=l) (n:=n);omega
theorem t32H {a:Nat} (h:a<2^32):a<2^top .u32:=by simpa [top] using h
namespace q73_
theorem spec {t:api_Table} (ht:TV t) {r:api_Row} (hr:r∈t.Rows) {n:Nat} (hn:n<2^t.Attrs.length):C r n (Aav (pick r.Values n)):=by
 have hn32:n<2^32:=Nat.lt_of_lt_of_le hn (Nat.pow_le_pow_right (by decide) (by have:=ht.na;omega));have hl:=Agh (n:=n);obtain ⟨q,h1,h2⟩:=enter r n (fun q=>q=Aav (pick r.Values n)) (by
  refine ⟨_,q49_.spec hn32,?_⟩;have loop:∀ j,j<=(Aan n).length->L1 r (Aav (((Aan n).take j).filterMap fun i=>r.Values[i]?)) ((Aan n).map fun (i:Nat)=>(i:Int)) (j:Int) fun q=>q=Aav (pick r.Values n):=by
   refine down ?_ ?_
   ·apply L1_step;rw [List.length_map,if_neg (by omega),List.take_length];rfl
   ·intro j hj h;apply L1_step;rw [List.length_map,if_pos (by omega)];have hget:=List.getElem?_eq_getElem hj;generalize (Aan n)[j]=i at hget;have hi:=(Aci hn32).1 (List.mem_of_getElem? hget);have hilt:i<t.Attrs.length:=by
     false_or_by_contra
     rename_i hh;rw [Nat.testBit_lt_two_pow (Nat.lt_of_lt_of_le hn (Nat.pow_le_pow_right (by decide) (by omega)))] at hi;cases hi
    have hrl:=ht.len hr;have hv:=List.getElem?_eq_getElem (l:=r.Values) (i:=i) (by omega);generalize r.Values[i]'(by omega)=v at hv;have hval:=ht.val hr v (List.mem_of_getElem? hv);refine ⟨(i:Int),by rw [Acg,List.getElem?_map,hget];rfl,v,Ab2 hv,(keyW v,0),q72_.spec hval,?_,?_⟩
    ·have a1:=An1 (l:=((Aan n).take j).filterMap fun i=>r.Values[i]?) (fun v hv=>by
      obtain ⟨i,_,hi⟩:=List.mem_filterMap.1 hv
      exact ht.val hr v (List.mem_of_getElem? hi))
     have a2:(((Aan n).take j).filterMap fun i=>r.Values[i]?).length<=32:=Nat.le_trans (List.length_filterMap_le _ _) (by rw [List.length_take];omega);have a3:=Alw hval;rw [Aqz,Atv];omega
    ·rw [Aa3 (by omega)];have e:(((Aan n).take (j+1)).filterMap fun i=>r.Values[i]?)=(((Aan n).take j).filterMap fun i=>r.Values[i]?)++[v]:=by
      rw [List.take_add_one,hget,List.filterMap_append];simp [hv]
     rw [e] at h;simp only [Bdh,An3];exact h
  have:=loop 0 (Nat.zero_le _)
  simpa [Aav,Acm,bstr] using this)
 rw [← h1];exact h2
end q73_
def row3 (l p q:Nat) (r:api_Row):Key3:=(Aav (pick r.Values l),Aav (pick r.Values p),Aav (pick r.Values q))
theorem Ava {t:api_Table} (ht:TV t) {l p q:Nat} (hl:l<2^t.Attrs.length) (hp:p<2^t.Attrs.length) (hq:q<2^t.Attrs.length) (k:List Key3->Ask):∀ (rs:List api_Row),(∀ r∈rs,r∈t.Rows)->∃ N,∀ m,N<=m->∀ acc,runAsk (Abc env m) (Ag6 Hol.keyF l p q k (rs.map Aa2) acc)=runAsk (Abc env m) (k (acc++rs.map (row3 l p q)))
 | [],_=>⟨0,fun m _ acc=>by simp [Ag6]⟩
 | r::rs,h=>by
  obtain ⟨N,hN⟩:=Ava ht hl hp hq k rs fun r hr=>h r (by simp [hr]);have hr:=h r (by simp);obtain ⟨N1,h1⟩:=q73_.spec ht hr hl;obtain ⟨N2,h2⟩:=q73_.spec ht hr hp;obtain ⟨N3,h3⟩:=q73_.spec ht hr hq;refine ⟨N+N1+N2+N3,fun m hm acc=>?_⟩;have k1:Abc env m Hol.keyF [.agg [.lit (.int .i64 r.ID),.sl (r.Values.map Aa1)],.lit (.int .u32 l)]=some (.lit (.string (Aav (pick r.Values l))),[]):=h1 m (by omega);have k2:Abc env m Hol.keyF [.agg [.lit (.int .i64 r.ID),.sl (r.Values.map Aa1)],.lit (.int .u32 p)]=some (.lit (.string (Aav (pick r.Values p))),[]):=h2 m (by omega);have k3:Abc env m Hol.keyF [.agg [.lit (.int .i64 r.ID),.sl (r.Values.map Aa1)],.lit (.int .u32 q)]=some (.lit (.string (Aav (pick r.Values q))),[]):=h3 m (by omega);have z1:=Aw6 (l:=r.Values) (n:=p) fun v hv=>ht.val hr v hv;have z2:=Aw6 (l:=r.Values) (n:=q) fun v hv=>ht.val hr v hv;have e:(r::rs).map Aa2=[.lit (.int .i64 r.ID),.sl (r.Values.map Aa1)]::rs.map Aa2:=rfl;rw [e];simp only [Ag6,runAsk,k1,k2,k3];rw [if_pos (by omega),hN m (by omega)];simp [row3]
theorem Bdv {t:api_Table} {l p q:Nat}:okH (t.Rows.map (row3 l p q))=true↔∀ i,i<t.Rows.length->okG t l p q (keyR t l i):=by
 have e:t.Rows.map (row3 l p q)=(List.range t.Rows.length).map fun i=>(keyR t l i,keyR t p i,keyR t q i):=by
  apply List.ext_getElem
  ·simp
  ·intro i h1 h2;simp only [List.getElem_map,List.getElem_range];rw [List.length_map] at h1;rw [Ady h1,Ady h1,Ady h1];rfl
 have eg:∀ s,grpH (t.Rows.map (row3 l p q)) s=(grpK t l s).map fun i=>(keyR t l i,keyR t p i,keyR t q i):=fun s=>by
  rw [e];unfold grpH grpK;rw [List.filter_map];exact congrArg _ (List.filter_congr fun i _=>Eq.refl (keyR t l i == s))
 have eo:∀ s,okK (t.Rows.map (row3 l p q)) s↔okG t l p q s:=fun s=>by
  unfold okK set1 set2 set3 okG;rw [eg];simp only [List.map_map];exact Iff.rfl
 rw [Aso];constructor
 ·intro h i hi;rw [Ady hi];have hm:=h (row3 l p q t.Rows[i]) (List.mem_map.2 ⟨t.Rows[i],List.getElem_mem hi,rfl⟩);simp only [row3] at hm;exact (eo _).1 hm
 ·intro h x hx;obtain ⟨r,hr,rfl⟩:=List.mem_map.1 hx;obtain ⟨i,hi,rfl⟩:=List.getElem_of_mem hr;have:=h i hi;rw [Ady hi] at this;simp only [row3];exact (eo _).2 this
noncomputable def Aku (t:api_Table) (m:api_MVD):Bool×Int:=if Acd t=0 then Ai8 t m else (false,Acd t)
theorem q71_.spec {t:api_Table} (hn:TNum t) {m:api_MVD} (hl:U32 m.Lhs) (hr:U32 m.Rhs):q71_.C t m (Aku t m):=by
 obtain ⟨N,hN⟩:=q69_.spec (t:=t);have kv:∀ j,N<=j->Abc env j Hol.valF [.agg [.lit (.string t.Name),.sl (t.Attrs.map eS),.sl (t.Rows.map Aa2)]]=some (.lit (.int .i64 (Acd t)),[]):=fun j hj=>hN j hj;by_cases h0:Acd t=0
 ·have ht:=Afj.1 h0;have na:=ht.na;have pw:=Azy na;have p16:2^t.Attrs.length<=2^16:=Nat.pow_le_pow_right (by decide) na;have p0:=Nat.two_pow_pos t.Attrs.length;have eor:=orI hl hr;have hor:sN m.Lhs ||| sN m.Rhs<2^32:=Nat.or_lt_two_pow hl.lt hr.lt
  have eshr:shrw .u32 (bOr .u32 m.Lhs m.Rhs) ((t.Attrs.map eS).length:Int)=(((sN m.Lhs ||| sN m.Rhs) / 2^t.Attrs.length:Nat):Int):=by
   rw [List.length_map,eor];exact Ajh (t32H hor)
  by_cases hin:inU t.Attrs.length m.Lhs m.Rhs=true
  ·have hlt:=Aqs.1 hin;have hl2:sN m.Lhs<2^t.Attrs.length:=Nat.lt_of_le_of_lt Nat.left_le_or hlt;have hr2:sN m.Rhs<2^t.Attrs.length:=Nat.lt_of_le_of_lt Nat.right_le_or hlt;have hp2:Ac0 (sN m.Rhs) (sN m.Lhs)<2^t.Attrs.length:=Nat.lt_of_le_of_lt Ahm hr2;have hq2:Ac0 (2^t.Attrs.length-1) (sN m.Lhs ||| sN m.Rhs)<2^t.Attrs.length:=Nat.lt_of_le_of_lt Ahm (by omega);have e1:Aei m.Lhs m.Rhs=((Ac0 (sN m.Rhs) (sN m.Lhs):Nat):Int):=by
    unfold Aei
    conv=>lhs;rw [hl.eq,hr.eq]
    exact Akg hr.top hl.top
   have e2:Afz ((t.Attrs.map eS).length:Int) m.Lhs m.Rhs=((Ac0 (2^t.Attrs.length-1) (sN m.Lhs ||| sN m.Rhs):Nat):Int):=by
    unfold Afz;rw [List.length_map,eor,Be0 na];exact Akg (t32H (by omega)) (t32H hor)
   obtain ⟨N2,hN2⟩:=Ava ht hl2 hp2 hq2 (fun L=>.ret (some (resH (okH L) 0,[]))) t.Rows fun r hr=>hr;refine Anj (p:=fun _=>none) (q:=Ad7 Hol.valF Hol.keyF) (by kernel_rfl) rfl (by kernel_rfl) ⟨N+N2,fun j hj=>?_⟩;simp only [Ad7,runAsk,kv j (by omega),h0,if_true];rw [if_pos (by rw [eshr,Nat.div_eq_of_lt hlt];rfl),if_pos (by rw [List.length_map];have:=ht.nr;omega),e1,e2];have:=hN2 j (by omega) [];rw [← hl.eq] at this;rw [this];simp only [runAsk,List.nil_append];have hok:okH (t.Rows.map (row3 (sN m.Lhs) (Ac0 (sN m.Rhs) (sN m.Lhs)) (Ac0 (2^t.Attrs.length-1) (sN m.Lhs ||| sN m.Rhs))))=mvB t (sN m.Lhs) (sN m.Rhs):=by
    rw [Bool.eq_iff_iff,Bdv,Aiy];exact Bgr ht hn hl2 hr2
   rw [hok];unfold Aku Ai8;rw [if_pos h0,if_pos hin];rfl
  ·have hge:2^t.Attrs.length<=sN m.Lhs ||| sN m.Rhs:=Nat.le_of_not_lt fun h=>hin (Aqs.2 h)
   refine Anj (p:=fun _=>none) (q:=Ad7 Hol.valF Hol.keyF) (by kernel_rfl) rfl (by kernel_rfl) ⟨N,fun j hj=>?_⟩;simp only [Ad7,runAsk,kv j (by omega),h0,if_true];rw [if_neg (by
    rw [eshr];have:0<(sN m.Lhs ||| sN m.Rhs) / 2^t.Attrs.length:=Nat.div_pos hge p0
    omega)]
   unfold Aku Ai8;rw [if_pos h0,if_neg hin];rfl
 ·refine Anj (p:=fun _=>none) (q:=Ad7 Hol.valF Hol.keyF) (by kernel_rfl) rfl (by kernel_rfl) ⟨N,fun j hj=>?_⟩;simp only [Ad7,runAsk,kv j (by omega)];rw [if_neg h0];unfold Aku;rw [if_neg h0];rfl
def abcK:List ByteArray:=[⟨#[97]⟩,⟨#[98]⟩,⟨#[99]⟩,⟨#[100]⟩,⟨#[101]⟩,⟨#[102]⟩,⟨#[103]⟩,⟨#[104]⟩,⟨#[105]⟩,⟨#[106]⟩,⟨#[107]⟩,⟨#[108]⟩,⟨#[109]⟩,⟨#[110]⟩,⟨#[111]⟩,⟨#[112]⟩]
def bitV (b:Bool):api_Value:=⟨1,if b=true then 1 else 0,⟨#[]⟩⟩
def rowV (n m:Nat):List api_Value:=(List.range n).map fun i=>bitV (m.testBit i)
namespace q66_
end q66_
namespace q62_
end q62_
theorem As8 {t:api_Table} (ht:TV t) {d:api_FD} (hl:U32 d.Lhs) (hr:U32 d.Rhs):∃ b,q14_.C t d b/\(b=true↔SatP t (sN d.Lhs) (sN d.Rhs)):=
 q14_.spec ht hl.eq hr.eq hl.lt hr.lt
namespace q44_
end q44_
theorem Ak4 {α:Type} {l:List α} {P:α->Prop} {L:Int->Prop} {N:Prop} (hend:(∀ a∈l,P a)->L (l.length:Int)) (hbad:(¬ ∀ a∈l,P a)->N) (hs:∀ (k:Nat) (a:α),l[k]? = some a->k<l.length->(P a->L ((k+1:Nat):Int))->(¬ P a->N)->L (k:Int)):L 0:=by
 have go:∀ (d k:Nat),d+k=l.length->(∀ j a,j<k->l[j]? = some a->P a)->L (k:Int):=by
  intro d
  induction d with
  | zero=>
   intro k hk hp;have hk:k=l.length:=by omega
   subst hk;refine hend fun a ha=>?_;obtain ⟨j,hj⟩:=List.getElem?_of_mem ha;exact hp j a (List.getElem?_eq_some_iff.1 hj).1 hj
  | succ d ih=>
   intro k hk hp;have hlt:k<l.length:=by omega
   have hget:=List.getElem?_eq_getElem hlt;refine hs k _ hget hlt (fun hP=>ih (k+1) (by omega) fun j a hj ha=>?_) (fun hP=>hbad fun h=>hP (h _ (List.getElem_mem hlt)));by_cases hjk:j=k
   ·subst hjk;rw [hget] at ha;cases ha;exact hP
   ·exact hp j a (by omega) ha
 exact go l.length 0 rfl fun j _ hj=>absurd hj (Nat.not_lt_zero j)
def Ayr (t:api_Table) (fds:List api_FD) (mvds:List api_MVD):Prop:=(∀ d∈fds,SatP t (sN d.Lhs) (sN d.Rhs))/\∀ m∈mvds,MvP t (sN m.Lhs) (sN m.Rhs)
open Classical in
noncomputable def Agj (t:api_Table) (fds:List api_FD) (mvds:List api_MVD):Bool:=decide (Ayr t fds mvds)
theorem Amn {t:api_Table} {fds:List api_FD} {mvds:List api_MVD}:Agj t fds mvds=true↔Ayr t fds mvds:=by unfold Agj;exact @decide_eq_true_iff _ (Classical.propDecidable _)
theorem Ajs {t:api_Table} {fds:List api_FD} {mvds:List api_MVD} (h:¬ Ayr t fds mvds):Agj t fds mvds=false:=by
 cases hb:Agj t fds mvds with
 | false=>rfl
 | true=>exact absurd (Amn.1 hb) h
theorem Ayh {t:api_Table} {l r:Nat} (h:¬ MvP t l r):mvB t l r=false:=by
 cases hb:mvB t l r with
 | false=>rfl
 | true=>exact absurd (Aiy.1 hb) h
noncomputable def Aok (t:api_Table) (fds:List api_FD) (mvds:List api_MVD):Bool×Int:=if Acd t=0 then (if basE (t.Attrs.length:Int) fds mvds=0 then (Agj t fds mvds,0) else (false,basE (t.Attrs.length:Int) fds mvds)) else (false,Acd t)
section
variable {t:api_Table} {fds:List api_FD} {mvds:List api_MVD}
theorem Avb {n:Int} (h:basE n fds mvds=0):fds.length<=64/\mvds.length<=64:=by
 unfold basE at h
 split at h
 ·rename_i h0
  split at h
  ·cases h
  ·refine ⟨?_,by omega⟩;unfold fdsE at h0
   split at h0
   ·cases h0
   ·split at h0
    ·cases h0
    ·omega
 ·rename_i h0;exact absurd h h0
theorem Aq9 {n:Nat} (h:basE (n:Int) fds mvds=0):(∀ d∈fds,sN d.Lhs<2^n/\sN d.Rhs<2^n)/\∀ m∈mvds,inU n m.Lhs m.Rhs=true:=by
 unfold basE at h
 split at h
 ·rename_i h0;refine ⟨fun d hd=>?_,?_⟩
  ·unfold fdsE at h0
   split at h0
   ·cases h0
   ·split at h0
    ·cases h0
    ·split at h0
     ·rename_i h2;rw [List.all_eq_true] at h2;have:=h2 d hd;unfold inU at this;rw [Int.toNat_natCast,Bool.and_eq_true,decide_eq_true_eq,decide_eq_true_eq] at this;exact this
     ·cases h0
  ·split at h
   ·cases h
   ·split at h
    ·rename_i h2;rw [List.all_eq_true] at h2;intro m hm;have:=h2 m hm
     rwa [Int.toNat_natCast] at this
    ·cases h
 ·rename_i h0;exact absurd h h0
theorem Azg (ht:TV t) {m:api_MVD} (hin:inU t.Attrs.length m.Lhs m.Rhs=true):Aku t m=(mvB t (sN m.Lhs) (sN m.Rhs),0):=by
 unfold Aku Ai8;rw [if_pos (Afj.2 ht),if_pos hin]
theorem q45_.spec (hn:TNum t) (hf:FdOK fds) (hm:Ao3 mvds):q45_.C t fds mvds (Aok t fds mvds):=by
 obtain ⟨r,h1,h2⟩:=q45_.enter t fds mvds (fun r=>r=Aok t fds mvds) (by
  refine ⟨_,q69_.spec,?_⟩;unfold Aok;by_cases h0:Acd t=0
  ·rw [if_pos h0,if_pos h0];have ht:=Afj.1 h0;refine ⟨_,q70_.spec hf hm,?_⟩;by_cases hb:basE (t.Attrs.length:Int) fds mvds=0
   ·rw [if_pos hb,if_pos hb];obtain ⟨l1,l2⟩:=Avb hb;obtain ⟨v1,v2⟩:=Aq9 hb;refine Ak4 (l:=fds) (P:=fun d=>SatP t (sN d.Lhs) (sN d.Rhs)) (L:=fun k=>q45_.L1 t fds mvds k _) (N:=(false,(0:Int))=(Agj t fds mvds,0)) (fun hall=>?_) (fun hno=>by rw [Ajs fun h=>hno h.1]) (fun k d hd hk hy hno=>?_)
    ·apply q45_.L1_step;rw [if_neg (by omega)];refine Ak4 (l:=mvds) (P:=fun d=>MvP t (sN d.Lhs) (sN d.Rhs)) (L:=fun k=>q45_.L2 t mvds k _) (N:=(false,(0:Int))=(Agj t fds mvds,0)) (fun hall2=>?_) (fun hno=>by rw [Ajs fun h=>hno h.2]) (fun k m hm' hk hy hno=>?_)
     ·apply q45_.L2_step;rw [if_neg (by omega),Amn.2 ⟨hall,hall2⟩]
     ·apply q45_.L2_step;have hmm:=List.mem_of_getElem? hm';rw [if_pos (by omega)];refine ⟨m,Ab2 hm',_,q71_.spec hn (hm m hmm).1 (hm m hmm).2,?_⟩;rw [Azg ht (v2 m hmm),Aa3 (by omega)];by_cases hM:MvP t (sN m.Lhs) (sN m.Rhs)
      ·rw [if_pos (Aiy.2 hM)];exact hy hM
      ·rw [if_neg (by rw [Ayh hM];simp)];exact hno hM
    ·apply q45_.L1_step;have hdm:=List.mem_of_getElem? hd;have hlh:=hf d hdm;have hv:=v1 d hdm;rw [if_pos (by omega)];obtain ⟨q,q1,q2,q3⟩:=q54_.spec (t:=t) (fd:=d) hn hlh.1.eq hlh.2.eq hlh.1.lt hlh.2.lt;refine ⟨d,Ab2 hd,q,q1,?_⟩;have hE:Aj5 t (sN d.Lhs) (sN d.Rhs)=0:=by
      unfold Aj5;rw [if_pos h0,if_pos (Azv.2 hv)]
     rw [Aa3 (by omega)];by_cases hS:SatP t (sN d.Lhs) (sN d.Rhs)
     ·rw [if_pos (q3.2 ⟨hE,hS⟩)];exact hy hS
     ·rw [if_neg fun h=>hS (q3.1 h).2];exact hno hS
   ·rw [if_neg hb,if_neg hb]
  ·rw [if_neg h0,if_neg h0])
 rw [← h1];exact h2
theorem q44_.mixed (ht:TV t) (hf:FdOK fds) (hm:Ao3 mvds) (hb:basE (t.Attrs.length:Int) fds mvds=0):q44_.C t fds mvds (Agj t fds mvds):=by
 obtain ⟨l1,l2⟩:=Avb hb;obtain ⟨v1,v2⟩:=Aq9 hb;obtain ⟨r,h1,h2⟩:=q44_.enter t fds mvds (fun r=>r=Agj t fds mvds) (by
  refine Ak4 (l:=fds) (P:=fun d=>SatP t (sN d.Lhs) (sN d.Rhs)) (L:=fun k=>q44_.L1 t fds mvds k _) (N:=false=Agj t fds mvds) (fun hall=>?_) (fun hno=>by rw [Ajs fun h=>hno h.1]) (fun k d hd hk hy hno=>?_)
  ·apply q44_.L1_step;rw [if_neg (by omega)];refine Ak4 (l:=mvds) (P:=fun d=>MvP t (sN d.Lhs) (sN d.Rhs)) (L:=fun k=>q44_.L2 t mvds k _) (N:=false=Agj t fds mvds) (fun hall2=>?_) (fun hno=>by rw [Ajs fun h=>hno h.2]) (fun k m hm' hk hy hno=>?_)
   ·apply q44_.L2_step;rw [if_neg (by omega),Amn.2 ⟨hall,hall2⟩]
   ·apply q44_.L2_step;have hmm:=List.mem_of_getElem? hm';rw [if_pos (by omega)];refine ⟨m,Ab2 hm',_,q39_.spec ht (hm m hmm).1 (hm m hmm).2,?_⟩;unfold Ai8;rw [if_pos (v2 m hmm),Aa3 (by omega)];by_cases hM:MvP t (sN m.Lhs) (sN m.Rhs)
    ·rw [if_pos (Aiy.2 hM)];exact hy hM
    ·rw [if_neg (by rw [Ayh hM];simp)];exact hno hM
  ·apply q44_.L1_step;have hdm:=List.mem_of_getElem? hd;obtain ⟨b,hb,hi⟩:=As8 ht (hf d hdm).1 (hf d hdm).2;rw [if_pos (by omega)];refine ⟨d,Ab2 hd,b,hb,?_⟩;rw [Aa3 (by omega)];by_cases hS:SatP t (sN d.Lhs) (sN d.Rhs)
   ·rw [if_pos (hi.2 hS)];exact hy hS
   ·rw [if_neg fun h=>hS (hi.1 h)];exact hno hS)
 rw [← h1];exact h2
theorem q16_.spec (hf:FdOK fds) (hm:Ao3 mvds):q16_.C t fds mvds (Aok t fds mvds):=by
 obtain ⟨r,h1,h2⟩:=q16_.enter t fds mvds (fun r=>r=Aok t fds mvds) (by
  refine ⟨_,q33_.spec,?_⟩;unfold Aok;by_cases h0:Acd t=0
  ·rw [if_pos h0,if_pos h0];refine ⟨_,q37_.spec hf hm,?_⟩;by_cases hb:basE (t.Attrs.length:Int) fds mvds=0
   ·rw [if_pos hb,if_pos hb];exact ⟨_,q44_.mixed (Afj.1 h0) hf hm hb,rfl⟩
   ·rw [if_neg hb,if_neg hb]
  ·rw [if_neg h0,if_neg h0])
 rw [← h1];exact h2
end
end Go.Own
namespace Go.Own
set_option maxRecDepth 1000000
namespace awkT
def bR (n:Nat):List Nat->Nat->List api_Row
 | [],_=>[]
 | r::R,k=>⟨((k+1:Nat):Int),rowV n r⟩::bR n R (k+1)
def T1:api_Table:=⟨⟨#[116]⟩,abcK.take 3,bR 3 [0,4] 0⟩
def T2:api_Table:=⟨⟨#[116]⟩,abcK.take 3,bR 3 [0,6,4,2] 0⟩
theorem m1:q74_.C 3 [⟨1,2⟩] ⟨1,4⟩ (T1,0):=Ret.of (n:=400) (by kernel_rfl)
theorem m2:q62_.C 3 [⟨1,2⟩] ⟨1,4⟩ (T1,0):=Ret.of (n:=400) (by kernel_rfl)
theorem m3:q67_.C 3 [] [⟨1,2⟩] ⟨1,2⟩ (T2,0):=Ret.of (n:=400) (by kernel_rfl)
theorem m4:q74_.C 3 [⟨1,2⟩] ⟨5,2⟩ (⟨⟨#[]⟩,[],[]⟩,10):=Ret.of (n:=400) (by kernel_rfl)
theorem m5:q43_.C T1 T1 true:=Ret.of (n:=400) (by kernel_rfl)
theorem m6:q33_.C T2 0:=Ret.of (n:=400) (by kernel_rfl)
theorem m7:q44_.C T2 [] [⟨1,2⟩] true:=Ret.of (n:=400) (by kernel_rfl)
theorem m8:q14_.C T2 ⟨1,2⟩ false:=Ret.of (n:=400) (by kernel_rfl)
end awkT
theorem Bas:q46_.C true:=by
 obtain ⟨r,e1,e2⟩:=q46_.enter (fun r=>r=true) (by
  refine ⟨_,awkT.m1,_,awkT.m2,_,awkT.m3,_,awkT.m4,?_⟩;rw [if_pos rfl];refine ⟨_,awkT.m5,?_⟩;rw [if_pos rfl,if_pos (by decide),if_pos rfl];refine ⟨_,awkT.m6,?_⟩;rw [if_pos rfl,if_pos (by decide)];refine ⟨_,awkT.m7,?_⟩;rw [if_pos rfl];refine ⟨_,awkT.m8,?_⟩;rw [if_neg (by decide)]
  rfl)
 subst e1;exact e2
end Go.Own
namespace Go.Own
namespace drosslaw20_RefuteSatisfies
theorem numOf {t:api_Table} (h:Agx t):TNum t:=fun r hr v hv=>Bhk ((h.2.2.2 r hr).2.2 v hv).2.1
theorem again {φ:Bool->Prop} (h:φ true):L1 φ:=L1_step φ ⟨true,Bas,h⟩
theorem spec (t:api_Table) (fds:List api_FD) (mvds:List api_MVD) (hn:TNum t) (hf:FdOK fds) (hm:Ao3 mvds):C t fds mvds true:=by
 obtain ⟨r,e1,e2⟩:=enter t fds mvds (fun r=>r=true) (by
  refine ⟨true,Bas,?_⟩;rw [if_pos rfl];by_cases h1:12<(t.Rows.length:Int)
  ·rw [if_pos h1];exact again rfl
  rw [if_neg h1];by_cases h2:10<(fds.length:Int)
  ·rw [if_pos h2];exact again rfl
  rw [if_neg h2];by_cases h3:10<(mvds.length:Int)
  ·rw [if_pos h3];exact again rfl
  rw [if_neg h3];refine ⟨_,q45_.spec hn hf hm,_,q16_.spec hf hm,?_⟩
  rw [if_pos rfl];simp)
 subst e1;exact e2
theorem law {xs:List D} (hx:Ajr env.P Ahd Ahe xs):Ret env Ahc xs (.lit (.bool true)) []:=
 Ah7 (fun x0 x1 x2 h0 h1 h2=>spec x0 x1 x2 (numOf h0) (fun d hd=>⟨Arr (h1.2 d hd).1,Arr (h1.2 d hd).2⟩) (fun d hd=>⟨Arr (h2.2 d hd).1,Arr (h2.2 d hd).2⟩)) hx
end drosslaw20_RefuteSatisfies
end Go.Own
