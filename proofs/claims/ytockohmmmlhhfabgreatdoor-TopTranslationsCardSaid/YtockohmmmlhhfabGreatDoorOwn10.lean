/- An interpreter of function bodies, sound. No conditions. -/
import Derived.Laws.BytesString
import Derived.Laws.IdiomStrings
import Derived.Test.YtockohmmmlhhfabGreatDoorOwn9
set_option linter.all false
namespace Go.Own
open D
theorem Aer {M:Mem}:∀ {cs:List D} {vs:List Value},RCs M cs vs->∃ ts:List T,ts.map T.erase=cs/\T.vals ts=vs/\T.tidyC ts/\T.wfC M ts/\(∀ t∈ts,t.blocks=[])
 | [],vs,h=>by simp only [RCs] at h;subst h;exact ⟨[],rfl,rfl,trivial,trivial,by simp⟩
 | c::cs,vs,h=>by
  simp only [RCs] at h;obtain ⟨v,vs',rfl,h1,h2⟩:=h;obtain ⟨ts,b1,b2,b3,b4,b5⟩:=Aer h2;refine ⟨.leaf c v::ts,by simp [T.erase,b1],by simp [T.vals,T.val,b2],⟨?_,b3⟩,⟨.inr h1,b4⟩,?_⟩
  ·cases c<;>simp_all [T.tidy,RI]
  ·intro t ht;rcases List.mem_cons.1 ht with rfl | ht
   ·simp [T.blocks]
   ·exact b5 t ht
theorem Ary {M:Mem}:∀ {es:List (List D)} {vs:List Value},REs M es vs->∃ ts:List (List T),ts.map (·.map T.erase)=es/\T.valsE ts=vs/\T.tidyE ts/\T.wfE M ts
 | [],vs,h=>by simp only [REs] at h;subst h;exact ⟨[],rfl,rfl,trivial,trivial⟩
 | e::es,vs,h=>by
  simp only [REs] at h;obtain ⟨v1,v2,rfl,h1,h2⟩:=h;obtain ⟨t,a1,a2,a3,a4,_⟩:=Aer h1;obtain ⟨ts,b1,b2,b3,b4⟩:=Ary h2;exact ⟨t::ts,by simp [a1,b1],by simp [T.valsE,a2,b2],⟨a3,b3⟩,⟨a4,b4⟩⟩
theorem Aof {M:Mem}:∀ {ts:List T},T.tidyC ts->T.wfC M ts->(ts.map T.erase).any ex1=false->T.blocksC ts=[]
 | [],_,_,_=>by simp [T.blocksC]
 | t::ts,ht,hw,h=>by
  simp only [List.map_cons,List.any_cons,Bool.or_eq_false_iff] at h;simp only [T.blocksC,Aof ht.2 hw.2 h.2,List.append_nil];cases t with
  | leaf=>simp [T.blocks]
  | agg=>have:=hw.1;simp [T.wf] at this
  | tup=>have:=hw.1;simp [T.wf] at this
  | _=>have:=h.1;simp [T.erase,D.ex1] at this
theorem Agi {M:Mem}:∀ {ts:List (List T)},T.tidyE ts->T.wfE M ts->((ts.map (·.map T.erase)).any fun c=>c.any ex1)=false->T.blocksE ts=[]
 | [],_,_,_=>by simp [T.blocksE]
 | t::ts,ht,hw,h=>by
  simp only [List.map_cons,List.any_cons,Bool.or_eq_false_iff] at h;simp only [T.blocksE,Aof ht.1 hw.1 h.1,Agi ht.2 hw.2 h.2,List.append_nil]
section
variable {n:Nat} {R:Nat->Value} {M:Mem} {F F':Fr} {G:FT} {H:Blks} {a:Act} {w:World}
def Ax1 (M:Mem) (w:World) (v:Value) (es:List (List D)):Prop:=
 ∃ A c tss,v=.slice A es.length c/\es.length<=maxLen/\tss.map (·.map T.erase)=es/\T.tidyE tss/\T.wfE M tss /\
  (es=[]∨∃ g b k,A=some ⟨g,b,none⟩/\0<k/\(∀ e∈tss,e.length=k)/\∀ j u,(T.valsE tss)[j]? = some u->w.cell? ⟨g,b+j,none⟩=some u)
theorem Akx (hm:Aar M w) {es:List (List D)} {v:Value} (h:RI M (.sl es) v):Ax1 M w v es:=by
 simp only [RI] at h;obtain ⟨A,l,c,rfl,rfl,h3,h4,h5⟩:=h;rcases h5 with rfl | ⟨g,b,k,vs,rfl,hA,hk0,hk,hR⟩
 ·exact ⟨A,c,[],rfl,h4,rfl,trivial,trivial,.inl rfl⟩
 ·obtain ⟨ts,b1,b2,b3,b4⟩:=Ary hR;refine ⟨_,c,ts,rfl,h4,b1,b3,b4,.inr ⟨g,b,k,rfl,hk0,?_,?_⟩⟩
  ·intro e he;have:=hk (e.map T.erase) (by rw [← b1];exact List.mem_map.2 ⟨e,he,rfl⟩);simpa using this
  ·rw [b2];exact hA.heap hm
theorem Ayc {ts:List (List T)} (h:T.tidyE ts) (i k:Nat):T.tidyE ((ts.drop i).take k):=by
 rw [T.tidyE_iff] at h ⊢;intro e he;exact h e (List.mem_of_mem_drop (List.mem_of_mem_take he))
theorem Bbe {M:Mem} {ts:List (List T)} (h:T.wfE M ts) (i k:Nat):T.wfE M ((ts.drop i).take k):=by
 rw [T.wfE_iff] at h ⊢;intro e he;exact h e (List.mem_of_mem_drop (List.mem_of_mem_take he))
theorem Aud {α:Type} {l:List α} {i:Nat} (h:l.length<=i):l.drop i=[]:=List.drop_eq_nil_of_le h
theorem Ar2 {k:Nat} {ts:List (List T)} (hk:∀ e∈ts,e.length=k) (i:Nat):T.valsE (ts.drop i)=(T.valsE ts).drop (i*k):=by
 by_cases hi:i<=ts.length
 ·have hl:(T.valsE (ts.take i)).length=i*k:=by
   rw [Aat (fun x hx=>hk x (List.mem_of_mem_take hx)),List.length_take,Nat.min_eq_left hi]
  conv=>rhs;rw [← List.take_append_drop i ts,T.valsE_append,← hl,List.drop_left]
 ·rw [Aud (by omega),Aud]
  ·rfl
  ·rw [Aat hk];exact Nat.mul_le_mul_right _ (by omega)
theorem Aoy (h:Inv n R M F G H a w) {d:D} {v:Value} (hv:VOK M G d v) {es:List (List D)} (he:elemsOf F d=some es):Ax1 M w v es:=by
 cases d with
 | sl es'=>simp only [elemsOf,zJ] at he;subst he;exact Akx h.mem hv
 | alias s ps=>
  obtain ⟨x,hx,hn,rfl⟩:=hv;have hw:=h.node_wf hx hn;have ht:=h.node_tidy hx;simp only [elemsOf,h.getAt,hx,Option.map_some] at he
  split at he
  ·rename_i es' hes;simp only [zJ] at hes he;subst he;rcases Ae5 ht hes with ⟨g,cap,el,sp,ts,rfl,rfl⟩ | ⟨rfl,rfl⟩
   ·obtain ⟨⟨k,hk0,hk,hcap⟩,w2,w3,w4,w5⟩:=hw;refine ⟨_,cap,ts,by simp [T.val],by simp;omega,rfl,ht,w5,.inr ⟨g,0,k,rfl,hk0,hk,fun j u hu=>?_⟩⟩;have hb:=(h.block hx (b:=(g,.cells (T.valsE ts++sp).toArray el (0,0))) (by simp [T.blocks])).1;rw [cell_of_row w g (0+j) _ el (0,0) hb];simp only [Nat.zero_add,List.getElem?_toArray];rw [List.getElem?_append_left (List.getElem?_eq_some_iff.1 hu).1];exact hu
   ·exact ⟨none,0,[],rfl,by simp,rfl,trivial,trivial,.inl rfl⟩
  ·rename_i es' hes;simp only [zJ] at hes he;subst he;have e1:=Agu hes;rw [e1] at hw ⊢;exact Akx h.mem (Ad0 hw (by simp))
  ·cases he
 | sub s ps off len=>
  obtain ⟨x,hx,hn,hS⟩:=hv;have hw:=h.node_wf hx hn;have ht:=h.node_tidy hx;simp only [elemsOf,h.getAt,hx,Option.map_some] at he
  split at he
  ·rename_i es' hes
   split at he
   ·rename_i hle;simp only [zJ] at hes he;subst he;obtain ⟨A,m,c',k',es2,A',h1,h2,h3,h4,h5,h6,rfl,h8⟩:=hS;rcases Ae5 ht hes with ⟨g,cap,el,sp,ts,rfl,rfl⟩ | ⟨rfl,rfl⟩
    ·simp only [T.val,Value.slice.injEq] at h1;obtain ⟨rfl,rfl,rfl⟩:=h1;obtain ⟨⟨k,hk0,hk,hcap⟩,w2,w3,w4,w5⟩:=hw;simp only [List.length_map] at hle;have hlen:(((ts.map (·.map T.erase)).drop off).take len).length=len:=by simp;omega
     refine ⟨A',cap-off,(ts.drop off).take len,by rw [hlen],by rw [hlen];omega,by simp [List.map_take,List.map_drop],Ayc ht _ _,Bbe w5 _ _,?_⟩;by_cases hz:len=0
     ·left;simp [hz]
     right;rcases h8 with h8 | h8
     ·have hne:ts≠[]:=by intro hts;subst hts;simp at hle;omega
      have hk':k'=k:=by
       rcases h2 with h2 | h2
       ·simp only [T.erase,D.own.injEq] at h2;subst h2;obtain ⟨e,he⟩:=List.exists_mem_of_ne_nil ts hne;have:=h4 (e.map T.erase) (by rw [T.eraseE_eq];exact List.mem_map.2 ⟨e,he,rfl⟩);have:=hk e he;simp at *;omega
       ·simp [T.erase] at h2
      subst hk';refine ⟨g,off*k',k',by rw [h8];simp [Addr.add_plain],hk0,fun e he=>hk e (List.mem_of_mem_drop (List.mem_of_mem_take he)),fun j u hu=>?_⟩;have hb:=(h.block hx (b:=(g,.cells (T.valsE ts++sp).toArray el (0,0))) (by simp [T.blocks])).1;rw [cell_of_row w g (off*k'+j) _ el (0,0) hb];have hd:T.valsE (ts.drop off)=T.valsE ((ts.drop off).take len)++T.valsE ((ts.drop off).drop len):=by rw [← T.valsE_append,List.take_append_drop]
      have hu2:(T.valsE (ts.drop off))[j]? = some u:=by rw [hd,List.getElem?_append_left (List.getElem?_eq_some_iff.1 hu).1];exact hu
      rw [Ar2 hk,List.getElem?_drop] at hu2;simp only [List.getElem?_toArray];rw [List.getElem?_append_left (List.getElem?_eq_some_iff.1 hu2).1];exact hu2
     ·omega
    ·simp only [List.length_nil,Nat.le_zero_eq] at hle;have:len=0:=by omega
     subst this;exact ⟨A',c'-off,[],by simp,by simp,by simp,trivial,trivial,.inl (by simp)⟩
   ·cases he
  ·rename_i es' hes
   split at he
   ·simp only [zJ] at hes he;subst he;have e1:=Agu hes;rw [e1] at hw hS;exact Akx h.mem (Am6 (Ad0 hw (by simp)) hS)
   ·cases he
  ·cases he
 | _=>simp [elemsOf] at he
theorem Ahx {P:Program} {r clock:Nat} {es:Array MapEntry} (h:w.heap[r]? = some (.map es clock)):(getObj r).run P w=.ok (.map es clock) w:=by
 simp [getObj,Sem.run,h]
theorem Amg {t:T} (ht:t.tidy) {es:List (Value×D)} (h:t.erase=.map es):∃ r c xs,t=.map r c xs/\xs.map (fun x=>(x.1,x.2.2.1))=es:=by
 cases t with
 | leaf d v=>simp only [T.erase] at h;subst h;simp [T.tidy] at ht
 | map r c xs=>simp only [T.erase,D.map.injEq] at h;exact ⟨r,c,xs,rfl,h⟩
 | _=>simp [T.erase] at h
theorem Bdf {E:Env} (h:Inv n R M F G H a w) {t ty:Nat} {ts:List Nat} {x d:D} {v:Value} (hx:VOK M G x v) (hd:lenD E F t x=some d) :
  ∃ u,(Builtin.len_ (t::ts).toArray ty #[v]).run E.P w=.ok u w/\VOK M G d u:=by
 have ats:((t::ts).toArray)[0]? = some t:=by simp
 unfold lenD at hd
 split at hd
 ·rename_i s hu;simp only [zJ] at hd;subst hd;have:=Abb hx;subst this;refine ⟨.int .i64 s.size,?_,Ac1 rfl⟩;simp [Builtin.len_,run_underlying hu,goInt]
 ·rename_i e hu;simp only [zJ] at hd;subst hd;simp only [VOK] at hx;subst hx;refine ⟨.int .i64 0,?_,Ac1 rfl⟩;simp [Builtin.len_,run_underlying hu,goInt]
 ·rename_i d0 _ _ e hu _;cases he:elemsOf F d0 with
  | none=>simp [he] at hd
  | some es=>
   simp only [he,Option.map_some,zJ] at hd;subst hd;obtain ⟨A,c,tss,rfl,_⟩:=Aoy h hx he;refine ⟨.int .i64 es.length,?_,Ac1 rfl⟩;simp [Builtin.len_,run_underlying hu,goInt]
 ·rename_i kt et s ps hu;obtain ⟨y,hy,hn,rfl⟩:=hx;simp only [h.getAt,hy,Option.map_some] at hd
  split at hd
  ·rename_i es he;simp only [zJ] at he hd;subst hd;obtain ⟨r,c,xs,rfl,rfl⟩:=Amg (h.node_tidy hy) he;have hb:=(h.block hy (b:=(r,.map (T.entries xs) c)) (by simp [T.blocks])).1;refine ⟨.int .i64 xs.length,?_,by simpa using Ac1 (M:=M) (G:=G) (v:=.int .i64 xs.length) rfl⟩;simp [Builtin.len_,run_underlying hu,goInt,T.val,Ahx hb,T.entries]
  ·cases hd
 ·cases hd
end
end Go.Own
namespace Go.Own
open D
section
variable {n:Nat} {R:Nat->Value} {M:Mem} {F F':Fr} {G:FT} {H:Blks} {a:Act} {w:World}
def Af7 (lo:Option Nat) (lv:Option Value):Prop:=match lo,lv with
 | none,none=>True
 | some l,some v=>∃ k m,v=.int k m/\0<=m/\m.toNat=l
 | _,_=>False
theorem At0 {E:Env} (h:Inv n R M F G H a w) {x:Option Operand} (hx:∀ y,x=some y->Fits n y) {l:Option Nat} (hl:optNat E F x=some l):Af7 l (x.map a.eval):=by
 cases x with
 | none=>simp only [optNat,zJ] at hl;subst hl;trivial
 | some y=>
  simp only [optNat] at hl;cases hd:opd E F y with
  | none=>simp [hd] at hl
  | some d=>
   simp only [hd] at hl;cases hn:asNat d with
   | none=>simp [hn] at hl
   | some m=>
    simp only [hn,Option.map_some,zJ] at hl;subst hl;obtain ⟨k,i,rfl,h0,rfl⟩:=Af8 hn;have:=Abb (h.opd (hx y rfl) hd);exact ⟨k,i,this,h0,rfl⟩
theorem Ajo {P:Program} {isS:Bool} {len cap:Nat} {lo hi:Option Nat} {lv hv:Option Value} (hl:Af7 lo lv) (hh:Af7 hi hv) (h1:lo.getD 0<=hi.getD len) (h2:hi.getD len<=cap) (w:World) :
  (Instr.sliceBounds isS len cap lv hv none).run P w=.ok (lo.getD 0,hi.getD len,cap) w:=by
 have sb:∀ (k:IntKind) (m:Int) (y:Nat) (c:BoundsCode),0<=m->m.toNat<=y->(Instr.sliceBound (.int k m) y c).run P w=.ok m.toNat w:=fun k m y c a b=>by
  have:m<=y:=by omega
  simp [Instr.sliceBound,asIntOf,a,this]
 cases hi<;>cases hv<;>simp only [Af7] at hh<;>cases lo<;>cases lv<;>simp only [Af7] at hl
 ·simp [Instr.sliceBounds]
 ·obtain ⟨k,m,rfl,a,rfl⟩:=hl;simp only [Option.getD_some,Option.getD_none] at h1 h2;simp [Instr.sliceBounds,sb k m len _ a h1]
 ·obtain ⟨k,m,rfl,a,rfl⟩:=hh;simp only [Option.getD_some,Option.getD_none] at h1 h2;simp [Instr.sliceBounds,sb k m cap _ a h2]
 ·obtain ⟨k,m,rfl,a,rfl⟩:=hh;obtain ⟨k',m',rfl,a',rfl⟩:=hl;simp only [Option.getD_some] at h1 h2;simp [Instr.sliceBounds,sb k m cap _ a h2,sb k' m' _ _ a' h1]
theorem Afi {P:Program} {t e:Nat} (ht:P.underlying t=some (.slice e)) {i:TypeInfo} (hi:P.info? e=some i) {A:Option Addr} {l c:Nat} {lo hh:Option Nat} {lv hv:Option Value} (b1:Af7 lo lv) (b2:Af7 hh hv)
  (h1:lo.getD 0<=hh.getD l) (h2:hh.getD l<=c) (w:World) :
  (Instr.sliceAt t (.slice A l c) lv hv none).run P w=.ok (.slice (if c=lo.getD 0 then A else A.map (·.add (lo.getD 0*sizeT P e))) (hh.getD l-lo.getD 0) (c-lo.getD 0)) w:=by
 simp [Instr.sliceAt,Instr.slice,run_underlying ht,Ajo b1 b2 h1 h2,Acb hi]
theorem Ane {k:Nat} {es:List (List D)} (h:wide k es=true) {j:Nat} (hj:∀ e∈es,e.length=j):∀ e∈es,e.length=k:=by
 cases es with
 | nil=>simp
 | cons c es=>
  simp only [wide,beq_iff_eq] at h;have:=hj c (by simp);intro e he;rw [hj e he,← this,h]
theorem Azy {E:Env} (h:Inv n R M F G H a w) {t:Nat} {x d:D} {v:Value} (hx:VOK M G x v) {lo hi:Option Nat} {lv hv:Option Value} (b1:Af7 lo lv) (b2:Af7 hi hv) (hd:sliceD E F t x lo hi=some d) :
  ∃ u,(Instr.sliceAt t v lv hv none).run E.P w=.ok u w/\VOK M G d u:=by
 cases x with
 | lit z=>
  cases z with
  | string s=>
   simp only [sliceD] at hd
   split at hd
   ·rename_i hu
    split at hd
    ·rename_i hb;simp only [zJ] at hd;subst hd;have:=Abb hx;subst this;refine ⟨.string (s.extract (lo.getD 0) (hi.getD s.size)),?_,Ac1 rfl⟩;simp [Instr.sliceAt,Instr.slice,run_underlying hu,Ajo b1 b2 hb.1 hb.2]
    ·cases hd
   ·cases hd
  | _=>simp [sliceD] at hd
 | sl es=>
  simp only [sliceD] at hd;cases hs:sliceT E.P t with
  | none=>simp [hs] at hd
  | some e=>
   simp only [hs] at hd
   split at hd
   ·rename_i hb;obtain ⟨hb1,hb2,hb3,hb4⟩:=hb;simp only [zJ] at hd;subst hd;obtain ⟨inf,hinf⟩:=Ac2 hb4;have hR:RI M (.sl es) v:=hx;have hR':=hR;simp only [RI] at hR';obtain ⟨A,l,c,rfl,rfl,h3,h4,h5⟩:=hR';refine ⟨_,Afi (Ad2 hs) hinf b1 b2 hb1 (by omega) w,?_⟩;have hk:∃ k,∀ e∈es,e.length=k:=by
     rcases h5 with rfl | ⟨_,_,k,_,_,_,_,hk,_⟩
     ·exact ⟨0,by simp⟩
     ·exact ⟨k,hk⟩
    obtain ⟨k,hk⟩:=hk;have hke:=Ane hb3 hk;have hsub:Akz (.leaf (.sl es) (.slice A es.length c)) (lo.getD 0) (hi.getD es.length-lo.getD 0) (.slice (if c=lo.getD 0 then A else A.map (·.add (lo.getD 0*sizeT E.P e))) (hi.getD es.length-lo.getD 0) (c-lo.getD 0)):=by
     refine ⟨A,es.length,c,sizeT E.P e,es,_,rfl,.inr (by simp [T.erase]),rfl,hke,by omega,h3,rfl,?_⟩;by_cases hc:c=lo.getD 0
     ·by_cases h0:lo.getD 0=0
      ·left;rw [if_pos hc,h0];cases A<;>simp [Addr.add]
      ·right;omega
     ·left;rw [if_neg hc]
    exact Am6 hR hsub
   ·cases hd
 | alias s ps=>
  have hx0:=hx;obtain ⟨y,hy,hn,hv⟩:=hx;simp only [sliceD] at hd;cases hs:sliceT E.P t with
  | none=>simp [hs] at hd
  | some e=>
   simp only [hs] at hd;cases he:elemsOf F (alias s ps) with
   | none=>simp [he] at hd
   | some es=>
    simp only [he] at hd
    split at hd
    ·rename_i hb;obtain ⟨hb1,hb2,hb3,hb4⟩:=hb;simp only [zJ] at hd;subst hd;obtain ⟨inf,hinf⟩:=Ac2 hb4;have hw:=h.node_wf hy hn;have ht:=h.node_tidy hy;have key:∃ A c k,y.val=.slice A es.length c/\(y.erase=.own es∨y.erase=.sl es)/\es.length<=c/\(∀ e∈es,e.length=k):=by
      simp only [elemsOf,h.getAt,hy,Option.map_some] at he
      split at he
      ·rename_i es' hes;simp only [zJ] at hes he;subst he;rcases Ae5 ht hes with ⟨g,cap,el,sp,ts,rfl,rfl⟩ | ⟨rfl,rfl⟩
       ·obtain ⟨⟨k,hk0,hk,hcap⟩,w2,w3,w4,w5⟩:=hw;refine ⟨some ⟨g,0,none⟩,cap,k,by simp [T.val],.inl (by simp [T.erase,T.eraseE_eq]),by simpa using w2.1,?_⟩;intro x hx';obtain ⟨z,hz,rfl⟩:=List.mem_map.1 hx';simpa using hk z hz
       ·exact ⟨none,0,0,rfl,.inl (by simp [T.erase]),by simp,by simp⟩
      ·rename_i es' hes;simp only [zJ] at hes he;subst he;have e1:=Agu hes;rw [e1] at hw;have hr:=Ad0 hw (by simp);simp only [RI] at hr;obtain ⟨A,l,c,h1,rfl,h3,h4,h5⟩:=hr;refine ⟨A,c,?_⟩;rcases h5 with rfl | ⟨_,_,k,_,_,_,_,hk,_⟩
       ·exact ⟨0,h1,.inr hes,h3,by simp⟩
       ·exact ⟨k,h1,.inr hes,h3,hk⟩
      ·cases he
     obtain ⟨A,c,k,hval,her,hle,hk⟩:=key;subst hv;rw [hval];refine ⟨_,Afi (Ad2 hs) hinf b1 b2 hb1 (by omega) w,?_⟩;refine Abf (d:=.sub _ _ _ _) ⟨y,hy,hn,A,es.length,c,sizeT E.P e,es,_,hval,her,rfl,Ane hb3 hk,by omega,hle,rfl,?_⟩;by_cases hc:c=lo.getD 0
     ·by_cases h0:lo.getD 0=0
      ·left;rw [if_pos hc,h0];cases A<;>simp [Addr.add]
      ·right;omega
     ·left;rw [if_neg hc]
    ·cases hd
 | sub s ps off len=>
  obtain ⟨y,hy,hn,hS⟩:=hx;simp only [sliceD] at hd;cases hs:sliceT E.P t with
  | none=>simp [hs] at hd
  | some e=>
   simp only [hs] at hd;cases he:elemsOf F (alias s ps) with
   | none=>simp [he] at hd
   | some es=>
    simp only [he] at hd
    split at hd
    ·rename_i hb;obtain ⟨hb1,hb2,hb3,hb4⟩:=hb;simp only [zJ] at hd;subst hd;obtain ⟨inf,hinf⟩:=Ac2 hb4;have hes:y.erase=.own es∨y.erase=.sl es:=by
      simp only [elemsOf,h.getAt,hy,Option.map_some] at he
      split at he
      ·rename_i es' h';simp only [zJ] at h' he;subst he;exact .inl h'
      ·rename_i es' h';simp only [zJ] at h' he;subst he;exact .inr h'
      ·cases he
     obtain ⟨A,m,c,k,es2,A',h1,h2,h3,h4,h5,h6,rfl,h8⟩:=hS;have:es2=es:=by
      rcases h2 with h2 | h2<;>rcases hes with h' | h'<;>rw [h2] at h'<;>first | (injection h') | (cases h')
     subst this;have hk:es2=[]∨sizeT E.P e=k:=by
      cases es2 with
      | nil=>exact .inl rfl
      | cons z es2=>right;rw [← Ane hb3 h4 z (by simp),h4 z (by simp)]
     refine ⟨_,Afi (Ad2 hs) hinf b1 b2 hb1 (by omega) w,?_⟩;have he1:c-off-lo.getD 0=c-(off+lo.getD 0):=by omega
     refine Abf (d:=.sub _ _ _ _) ⟨y,hy,hn,A,m,c,k,es2,_,h1,h2,h3,h4,by omega,h6,by rw [he1],?_⟩;by_cases h0:lo.getD 0=0
     ·rw [h0];have hif:(if c-off=0 then A' else A'.map (·.add (0*sizeT E.P e)))=A':=by
       split
       ·rfl
       ·cases A'<;>simp [Addr.add]
      rw [hif];simpa using h8
     ·by_cases hc:c-off=lo.getD 0
      ·right;omega
      ·left;rw [if_neg hc];rcases h8 with h8 | h8
       ·rw [h8];have:sizeT E.P e=k:=by
         rcases hk with hk | hk
         ·subst hk;simp at h3;omega
         ·exact hk
        rw [this];cases A with
        | none=>rfl
        | some q=>
         simp only [Option.map_some,zJ,Nat.add_mul];unfold Addr.add
         (repeat' split)<;>simp_all<;>omega
       ·omega
    ·cases hd
 | _=>simp [sliceD] at hd
theorem Awq {E:Env} {M:Mem} {G:FT} {cs:List D} {vs:List Value} (h:All2 (VC M G) cs vs) {t off:Nat} {d:D} (hd:partD E t cs off=some d) (w:World):∃ u,(part t vs.toArray off).run E.P w=.ok u w/\VOK M G d u:=by
 unfold partD at hd
 split at hd
 case isFalse=>cases hd
 rename_i hc;obtain ⟨hu,hl⟩:=hc;obtain ⟨td,htd⟩:=Option.isSome_iff_exists.1 hu;obtain ⟨inf,hinf⟩:=Acm htd;obtain ⟨k1,k2⟩:=Ali ((h.drop off).take (sizeT E.P t)) hd;refine ⟨_,?_,k1⟩;unfold part;rw [Sem.run_bind,Agg htd w];simp only [Result.andThen_ok]
 split
 ·rename_i hb;simp only [Sem.run_bind,Acb hinf w,Result.andThen_ok,Sem.run_pure];congr 2;simp only [List.extract_toArray,List.extract_eq_take_drop];congr 2;omega
 ·rename_i hb;have:=k2 (by simpa using hb);rw [List.length_take,List.length_drop,← h.length] at this;have hs:sizeT E.P t=1:=by
   unfold ofCells at hd;simp only [hb] at hd;simp only [Bool.false_eq_true,if_false] at hd
   split at hd
   ·rename_i c hc;have:=congrArg List.length hc;rw [List.length_take,List.length_drop] at this;simp at this;omega
   ·cases hd
  have hlt:off<vs.length:=by rw [← h.length];omega
  rw [hs];simp only [List.getElem?_toArray,List.getElem?_eq_getElem hlt,Sem.run_pure];congr 1;rw [List.getD_eq_getElem?_getD,List.getElem?_take,if_pos (by omega),List.getElem?_drop,Nat.add_zero,List.getElem?_eq_getElem hlt];rfl
theorem Bas {E:Env} (h:Inv n R M F G H a w) {t j:Nat} {fd:Field} (hf:fieldT E.P t j=some fd) {cs:List D} {d:D} {v:Value} (hx:VOK M G (.agg cs) v) (hd:partD E fd.type cs fd.offset=some d) :
  ∃ u,(Instr.field t v j).run E.P w=.ok u w/\VOK M G d u:=by
 obtain ⟨fs,e1,e2⟩:=Ao7 hf;obtain ⟨vs,rfl,hvs⟩:=hx;obtain ⟨u,k1,k2⟩:=Awq hvs hd w;exact ⟨u,by simp [Instr.field,run_underlying e1,e2,asAgg,k1],k2⟩
theorem Arj {E:Env} (h:Inv n R M F G H a w) {t l e:Nat} (ht:arrayT E.P t=some (l,e)) {ix:D} {i:Nat} (hi:asNat ix=some i) (hil:i<l) {cs:List D} {d:D} {v u:Value} (hx:VOK M G (.agg cs) v) (hu:VOK M G ix u) (hd:partD E e cs (i*sizeT E.P e)=some d) :
  ∃ z,(Instr.index t v u).run E.P w=.ok z w/\VOK M G d z:=by
 obtain ⟨k,m,rfl,h0,rfl⟩:=Af8 hi;have:=Abb hu;subst this;obtain ⟨vs,rfl,hvs⟩:=hx;obtain ⟨z,k1,k2⟩:=Awq hvs hd w;have hlt:m<l:=by omega
 have hinf:∃ inf,E.P.info? e=some inf:=by
  unfold partD at hd
  split at hd
  ·rename_i hc;obtain ⟨td,htd⟩:=Option.isSome_iff_exists.1 hc.1;exact Acm htd
  ·cases hd
 obtain ⟨inf,hinf⟩:=hinf;exact ⟨z,by simp [Instr.index,asIntOf,run_underlying (Ao4 ht),h0,hlt,Acb hinf,k1],k2⟩
theorem Aq9 {E:Env} {t:Nat} (ht:E.P.underlying t=some .string) {ix:D} {i:Nat} (hi:asNat ix=some i) {s:ByteArray} {b:UInt8} {v u:Value} (hx:VOK M G (.lit (.string s)) v) (hu:VOK M G ix u) (hd:s[i]? = some b) :
  ∃ z,(Instr.index t v u).run E.P w=.ok z w/\VOK M G (.lit (.int .u8 b.toNat)) z:=by
 obtain ⟨k,m,rfl,h0,rfl⟩:=Af8 hi;have:=Abb hu;subst this;have:=Abb hx;subst this;exact ⟨_,by simp [Instr.index,asIntOf,run_underlying ht,h0,hd],Ac1 rfl⟩
theorem Afh {P:Program} (op:BinOp) (t:Nat) (x y:Operand) {u v:Value} (h1:∀ a b,u=.agg a->v=.agg b->False) (h2:u≠.nilIface) (w:World):(eqGuard op t x y u v).run P w=.ok () w:=by
 unfold eqGuard;rw [Sem.run_ite];generalize hc:(!match op with | .eql=>true | .neq=>true | x=>false)=c;by_cases hcc:c=true
 ·rw [if_pos hcc];rfl
 ·rw [if_neg hcc]
  split
  ·exact absurd rfl h2
  ·exact (h1 _ _ rfl rfl).elim
  ·rfl
theorem Awj {P:Program} {xs ys:List D} {us vs:List Value} {M:Mem} {G:FT} (hx:All2 (VC M G) xs us) (hy:All2 (VC M G) ys vs) (k:Nat) (w:World) {f:Field} {kk:Option Bool} {b:Bool} (h:eq1K P xs ys f kk=some b) :
  f.name ≠ "_" /\ ∃ x y r, (part f.type us.toArray f.offset).run P w = .ok x w /\ (part f.type vs.toArray f.offset).run P w = .ok y w /\ (Op.equalIn (k + 1) f.type x y).run P w = .ok r w /\ ((r = true /\ kk = some b) ∨ (r = false /\ b = false)) := by
 have lit:∀ {cs:List D} {zs:List Value},All2 (VC M G) cs zs->∀ {x:Value},cs[f.offset]? = some (.lit x)->zs[f.offset]? = some x:=fun hh x hc=>by
  obtain ⟨y,h1,h2⟩:=hh.get hc;rcases h2.2 with h2 | ⟨h2,_⟩
  ·simp only [L1,RI] at h2;rw [h1,h2.1]
  ·cases h2
 have prt:∀ {td:TypeDesc} (_:P.underlying f.type=some td) (_:isAggT P f.type=false) {zs:List Value} {x:Value},zs[f.offset]? = some x->(part f.type zs.toArray f.offset).run P w=.ok x w:=fun hu hag zs x hz=>by
  unfold part;rw [Sem.run_bind,Agg hu w,hag];simp [hz]
 unfold eq1K at h
 split at h
 ·cases h
 ·rename_i hne;refine ⟨hne,?_⟩
  split at h
  ·rename_i q1 k1 a k2 b' hu h1 h2
   split at h
   ·rename_i hk;subst hk;refine ⟨_,_,_,prt hu (by simp [isAggT,hu]) (lit hx h1),prt hu (by simp [isAggT,hu]) (lit hy h2),run_equalIn_int w k f.type k1 q1 a b' hu,?_⟩
    split at h
    ·rename_i hab;exact .inl ⟨hab,h⟩
    ·rename_i hab;exact .inr ⟨by simpa using hab,(Option.some.inj h).symm⟩
   ·cases h
  ·rename_i a b' hu h1 h2;refine ⟨_,_,_,prt hu (by simp [isAggT,hu]) (lit hx h1),prt hu (by simp [isAggT,hu]) (lit hy h2),run_equalIn_bool' w k f.type a b' hu,?_⟩
   split at h
   ·rename_i hab;exact .inl ⟨hab,h⟩
   ·rename_i hab;exact .inr ⟨by simpa using hab,(Option.some.inj h).symm⟩
  ·rename_i a b' hu h1 h2;refine ⟨_,_,_,prt hu (by simp [isAggT,hu]) (lit hx h1),prt hu (by simp [isAggT,hu]) (lit hy h2),run_equalIn_string w k f.type a b' hu,?_⟩
   split at h
   ·rename_i hab;exact .inl ⟨by simpa using hab,h⟩
   ·rename_i hab;exact .inr ⟨by simpa using hab,(Option.some.inj h).symm⟩
  ·cases h
theorem Apx {P:Program} {xs ys:List D} {us vs:List Value} {M:Mem} {G:FT} (hx:All2 (VC M G) xs us) (hy:All2 (VC M G) ys vs) (k:Nat) (w:World) {kk:Option Bool}:∀ {fs:List Field} {b:Bool},eqFlatK P xs ys kk fs=some b ->
  ∃ r,(Op.eqFields (k+1) us.toArray vs.toArray fs).run P w=.ok r w/\((r=true/\kk=some b)∨(r=false/\b=false))
 | [],b,h=>⟨true,rfl,.inl ⟨rfl,h⟩⟩
 | f::fs,b,h=>by
  obtain ⟨hn,x,y,r,h1,h2,h3,h4⟩:=Awj hx hy k w (f:=f) h;rcases h4 with ⟨rfl,h4⟩ | ⟨rfl,rfl⟩
  ·obtain ⟨r2,g1,g2⟩:=Apx hx hy k w (fs:=fs) h4;refine ⟨r2,?_,g2⟩;simp only [Op.eqFields,if_pos hn,Sem.run_bind,h1,h2,h3,Result.andThen_ok,Bool.not_true,Bool.false_eq_true,if_false];exact g1
  ·refine ⟨false,?_,.inr ⟨rfl,rfl⟩⟩;simp only [Op.eqFields,if_pos hn,Sem.run_bind,h1,h2,h3,Result.andThen_ok,Bool.not_false,if_true];rfl
theorem Ah5 {P:Program} {xs ys:List D} {us vs:List Value} {M:Mem} {G:FT} (hx:All2 (VC M G) xs us) (hy:All2 (VC M G) ys vs) (k:Nat) (w:World):∀ {fs:List Field} {b:Bool},eqFieldsD P xs ys fs=some b->(Op.eqFields (k+2) us.toArray vs.toArray fs).run P w=.ok b w
 | [],b,h=>by simp only [eqFieldsD,zJ] at h;subst h;rfl
 | f::fs,b,h=>by
  simp only [eqFieldsD] at h
  split at h
  ·rename_i gs hgs;have hu:P.underlying f.type=some (.struct gs.toArray):=by
    unfold structFs at hgs
    split at hgs
    ·rename_i a ha;rw [ha,← Option.some.inj hgs]
    ·cases hgs
   split at h
   ·cases h
   ·rename_i hne;simp only [Bool.or_eq_true,decide_eq_true_eq,not_or,Bool.not_eq_true] at hne;obtain ⟨hn,hst⟩:=hne;have hn : f.name ≠ "_" := by simpa using hn
    have hag:isAggT P f.type=true:=by simp [isAggT,hu]
    obtain ⟨info,hi⟩:=Acm hu;have prt:∀ zs:List Value,(part f.type zs.toArray f.offset).run P w=.ok (.agg ((zs.drop f.offset).take (sizeT P f.type)).toArray) w:=fun zs=>by
     unfold part;rw [Sem.run_bind,Agg hu w,hag];simp only [Result.andThen_ok,if_true,Sem.run_bind,Acb hi w];have:zs.toArray.extract f.offset (f.offset+sizeT P f.type)=((zs.drop f.offset).take (sizeT P f.type)).toArray:=by
      rw [List.extract_toArray,List.extract_eq_take_drop,Nat.add_sub_cancel_left]
     rw [this];rfl
    have hfs:P.underlying f.type=some (.struct (P.fieldsOf f.type)):=by simp [Program.fieldsOf,hu]
    have hfo:(P.fieldsOf f.type).toList=gs:=by simp [Program.fieldsOf,hu]
    obtain ⟨r,g1,g2⟩:=Apx ((hx.drop f.offset).take (sizeT P f.type)) ((hy.drop f.offset).take (sizeT P f.type)) k w (fs:=gs) h;have h3:(Op.equalIn (k+2) f.type (.agg ((us.drop f.offset).take (sizeT P f.type)).toArray) (.agg ((vs.drop f.offset).take (sizeT P f.type)).toArray)).run P w=.ok r w:=by
     rw [run_equalIn_struct w (k+1) f.type _ _ hfs hst,hfo];exact g1
    rcases g2 with ⟨rfl,g2⟩ | ⟨rfl,rfl⟩
    ·simp only [Op.eqFields,if_pos hn,Sem.run_bind,prt,h3,Result.andThen_ok,Bool.not_true,Bool.false_eq_true,if_false];exact Ah5 hx hy k w g2
    ·simp only [Op.eqFields,if_pos hn,Sem.run_bind,prt,h3,Result.andThen_ok,Bool.not_false,if_true];rfl
  ·obtain ⟨hn,x,y,r,h1,h2,h3,h4⟩:=Awj hx hy (k+1) w (f:=f) h;rcases h4 with ⟨rfl,h4⟩ | ⟨rfl,rfl⟩
   ·simp only [Op.eqFields,if_pos hn,Sem.run_bind,h1,h2,h3,Result.andThen_ok,Bool.not_true,Bool.false_eq_true,if_false];exact Ah5 hx hy k w h4
   ·simp only [Op.eqFields,if_pos hn,Sem.run_bind,h1,h2,h3,Result.andThen_ok,Bool.not_false,if_true];rfl
theorem Ajx {P:Program} {t:Nat} {fs:Array Field} (h:P.underlying t=some (.struct fs)):P.fieldsOf t=fs:=by simp [Program.fieldsOf,h]
theorem Bbw {E:Env} {op:BinOp} {t:Nat} {x y d:D} {u v:Value} (hx:VOK M G x u) (hy:VOK M G y v) (hd:binD E op t x y=some d) (ox oy:Operand) :
  ∃ z,(do eqGuard op t ox oy u v;binOp op t u v:Sem Value).run E.P w=.ok z w/\VOK M G d z:=by
 unfold binD at hd
 split at hd
 ·rename_i xs ys
  split at hd
  ·rename_i fs hu
   split at hd
   ·cases hd
   ·rename_i hc;simp only [Bool.or_eq_true,not_or,Bool.not_eq_true] at hc;obtain ⟨us,rfl,hus⟩:=hx;obtain ⟨vs,rfl,hvs⟩:=hy;have hst:E.P.underlying t=some (.struct (E.P.fieldsOf t)):=by rw [Ajx hu];exact hu
    split at hd
    ·rename_i b hb;simp only [zJ] at hd;subst hd;refine ⟨.bool b,?_,Ac1 rfl⟩;rw [Sem.run_bind,run_eqGuard_agg w _ t ox oy _ _ hc.2];simp only [Result.andThen_ok];rw [run_eql_struct,run_equalIn_struct w 9999 t _ _ hst hc.1,Ajx hu,Ah5 hus hvs 9997 w hb];rfl
    ·rename_i b hb;simp only [zJ] at hd;subst hd;refine ⟨.bool !b,?_,Ac1 rfl⟩;rw [Sem.run_bind,run_eqGuard_agg w _ t ox oy _ _ hc.2];simp only [Result.andThen_ok];rw [run_neq_struct,run_equalIn_struct w 9999 t _ _ hst hc.1,Ajx hu,Ah5 hus hvs 9997 w hb];rfl
    ·cases hd
  ·cases hd
 ·rename_i p q;have:=Abb hx;subst this;have:=Abb hy;subst this
  split at hd
  ·rename_i p q
   split at hd
   ·rename_i hu;simp only [zJ] at hd;subst hd;refine ⟨.bool (p == q),?_,Ac1 rfl⟩;rw [Sem.run_bind,Afh _ _ _ _ (by simp) (by simp) w];simp [binOp,Op.equal,Op.maxDepth,run_equalIn_bool' w 9999 t p q hu]
   ·rename_i hu;simp only [zJ] at hd;subst hd;refine ⟨.bool (p != q),?_,Ac1 rfl⟩;rw [Sem.run_bind,Afh _ _ _ _ (by simp) (by simp) w];simp [binOp,Op.equal,Op.maxDepth,run_equalIn_bool' w 9999 t p q hu,bne]
   ·cases hd
  ·cases hb:binV op u v with
   | none=>simp [hb] at hd
   | some z=>
    simp only [hb,Option.map_some,zJ] at hd;subst hd;refine ⟨z,?_,Ac1 (Au3 hb)⟩;have e1:(∀ a b,u=.agg a->v=.agg b->False)/\u≠.nilIface:=by
     cases u<;>cases v<;>simp_all [binV]
    rw [Sem.run_bind,Afh _ _ _ _ e1.1 e1.2 w];exact Bbx hb w
 ·cases hd
theorem Au9 {E:Env} (h:Inv n R M F G H a w):∀ {xs:List Operand} {cs:List D},(∀ x∈xs,Fits n x)->capsD E F xs=some cs->All2 (L1 M G) cs (xs.map a.eval)
 | [],cs,_,hd=>by simp only [capsD,zJ] at hd;subst hd;exact .nil
 | x::xs,cs,hf,hd=>by
  simp only [capsD] at hd
  split at hd
  ·rename_i d ds h1 h2
   split at hd
   ·rename_i hc;simp only [zJ] at hd;subst hd;refine .cons ?_ (Au9 h (fun y hy=>hf y (by simp [hy])) h2);have hv:=h.opd (hf x (by simp)) h1;cases d with
    | fn f cs=>
     simp only [capOK,Bool.not_eq_true'] at hc;obtain ⟨vs,e1,e2⟩:=hv;show RI M _ _;simp only [RI];exact ⟨vs,e1,Ajt e2 hc⟩
    | own=>simp [capOK] at hc
    | agg=>simp [capOK] at hc
    | box=>simp [capOK] at hc
    | map=>simp [capOK] at hc
    | bld=>simp [capOK] at hc
    | tup=>simp [capOK] at hc
    | undef=>simp [capOK] at hc
    | _=>simpa only [VOK,LOK] using hv
   ·cases hd
  ·cases hd
theorem Axg (h:Inv n R M F G H a w) {t i:Nat} (ht:t<n) {ds:List D} {d:D} (hg:Own.get F t=.tup ds) (hi:ds[i]? = some d) :
  ∃ u,(∀ P:Program,(Instr.extract (a.eval (.tmp t)) i).run P w=.ok u w)/\VOK M G (view t [(0,i)] d) u:=by
 rw [h.get] at hg;have htd:=h.tidyG t;have hok:=h.okG t;cases htt:getT G t with
 | leaf d' v=>rw [htt] at hg htd;simp only [T.erase] at hg;subst hg;simp [T.tidy] at htd
 | tup ts=>
  rw [htt] at hg htd hok;simp only [T.erase,D.tup.injEq] at hg;subst hg;rw [T.eraseC_eq,List.getElem?_map] at hi;cases hc:ts[i]? with
  | none=>simp [hc] at hi
  | some c=>
   simp only [hc,Option.map_some,zJ] at hi;subst hi;have hf:Aaa G t=some (getT G t):=Acl (by rw [htt,noT];simp);have hcomp:=hok c (List.mem_of_getElem? hc);have hslot:Aao M G c:=by
    cases c with
    | leaf d v=>
     rcases hcomp with rfl | hr
     ·simp [Aao,LOK,L1]
     ·exact Am5 hr
    | agg cs=>exact fun c hc'=>Aga ((T.wfC_iff M cs).1 hcomp c hc')
    | tup=>simp [Ahb,T.wf] at hcomp
    | _=>exact hcomp
   refine ⟨c.val,fun P=>?_,?_⟩
   ·rw [h.eval ht hf,htt];simp [T.val,Instr.extract,T.vals_eq,hc]
   ·exact Ao3 (by rw [htt];simp [T.getP,T.elem,hc]) ((T.tidyC_iff ts).1 htd c (List.mem_of_getElem? hc)) hslot
 | _=>rw [htt] at hg;simp [T.erase] at hg
end
end Go.Own
namespace Go.Own
open D
namespace T
def cells:T->List T
 | agg cs=>cs
 | t=>[t]
end T
theorem Aci {M:Mem} {t:T} (hg:Giv M t) (ht:t.tidy):t.cells.map T.erase=t.erase.cells/\T.vals t.cells=t.val.cells.toList/\T.tidyC t.cells/\T.wfC M t.cells/\T.blocksC t.cells=t.blocks:=by
 cases t with
 | agg cs=>exact ⟨by simp [T.cells,T.erase,D.cells,T.eraseC_eq],by simp [T.cells,T.val,Value.cells],ht,hg,by simp [T.cells,T.blocks]⟩
 | tup=>exact hg.elim
 | leaf d v=>
  refine ⟨?_,?_,⟨ht,trivial⟩,⟨.inr hg,trivial⟩,by simp [T.cells,T.blocksC,T.blocks]⟩
  ·cases d<;>simp_all [T.cells,T.erase,D.cells,T.tidy]
  ·have:=RI.one hg;cases v<;>simp_all [T.cells,T.vals,T.val,Value.cells,Value.oneCell']
 | own=>exact ⟨rfl,rfl,⟨ht,trivial⟩,⟨hg,trivial⟩,by simp [T.cells,T.blocksC]⟩
 | nil=>exact ⟨rfl,rfl,⟨ht,trivial⟩,⟨hg,trivial⟩,by simp [T.cells,T.blocksC]⟩
 | box=>exact ⟨rfl,rfl,⟨ht,trivial⟩,⟨hg,trivial⟩,by simp [T.cells,T.blocksC]⟩
 | map=>exact ⟨rfl,rfl,⟨ht,trivial⟩,⟨hg,trivial⟩,by simp [T.cells,T.blocksC]⟩
 | bld v bs t e l=>
  have hv:(T.bld v bs t e l).val.cells.toList=[v]:=by obtain ⟨g,p,rfl,_⟩:=hg;rfl
  exact ⟨rfl,hv.symm,⟨ht,trivial⟩,⟨hg,trivial⟩,by simp [T.cells,T.blocksC]⟩
section
variable {n:Nat} {R:Nat->Value} {M:Mem} {F F':Fr} {G:FT} {H:Blks} {a:Act} {w:World}
theorem BlkOK.heapEq {M:Mem} {w w':World} {B:Blks} (h:BlkOK M w B) (e:w'.heap=w.heap):BlkOK M w' B:=⟨h.nodup,fun x hx=>by rw [e];exact h.heap x hx,h.apart⟩
theorem Aar.heapEq {M:Mem} {w w':World} (h:Aar M w) (e:w'.heap=w.heap):Aar M w':=fun g o hg=>by rw [e];exact h g o hg
theorem Inv.heapEq (h:Inv n R M F G H a w) {w':World} (e:w'.heap=w.heap):Inv n R M F G H a w':=
 {h with blk:=h.blk.heapEq e,mem:=h.mem.heapEq e }
theorem BlkOK.alloc {M:Mem} {w:World} {B:Blks} (h:BlkOK M w B) (hm:Aar M w) (o:Obj):BlkOK M (w.alloc o) ((w.heap.size,o)::B) where
 nodup:=by
  simp only [List.map_cons,List.nodup_cons];refine ⟨fun hmem=>?_,h.nodup⟩;obtain ⟨x,hx,he⟩:=List.mem_map.1 hmem;have:=h.lt hx;omega
 heap x hx:=by
  rcases List.mem_cons.1 hx with rfl | hx
  ·exact heap_alloc_new w o
  ·rw [heap_alloc_old w o (h.lt hx)];exact h.heap x hx
 apart x hx:=by
  rcases List.mem_cons.1 hx with rfl | hx
  ·cases hM:M w.heap.size with
   | none=>rfl
   | some ob=>have:=hm.lt hM;omega
  ·exact h.apart x hx
theorem Aar.alloc {M:Mem} {w:World} (hm:Aar M w) (o:Obj):Aar M (w.alloc o):=fun g ob hg=>by
 rw [heap_alloc_old w o (hm.lt hg)];exact hm g ob hg
theorem Inv.alloc (h:Inv n R M F G H a w) (o:Obj):Inv n R M F G ((w.heap.size,o)::H) a (w.alloc o):=
 {h with
  blk:=(h.blk.alloc h.mem o).perm (List.perm_middle.symm)
  mem:=h.mem.alloc o }
theorem Evo.alloc {M:Mem} {B:List Nat} {w w1:World} {M1:Mem} {B1:List Nat} (e:Evo M B w M1 B1 w1) (o:Obj):Evo M B w M1 (w1.heap.size::B1) (w1.alloc o) where
 os:=e.os
 tape:=e.tape
 output:=e.output
 size:=by
  have:=e.size;show w.heap.size<=(w1.heap.push o).size;rw [Array.size_push];omega
 out g hg hB:=by rw [heap_alloc_old w1 o (by have:=e.size;omega)];exact e.out g hg hB
 memle:=e.memle
 memnew:=e.memnew
 own g hg:=by
  rcases List.mem_cons.1 hg with rfl | hg
  ·exact .inr e.size
  ·exact e.own g hg
theorem Evo.heapEq {M:Mem} {B:List Nat} {w w1 w2:World} {M1:Mem} {B1:List Nat} (e:Evo M B w M1 B1 w1) (h:w2.heap=w1.heap) (h1:w2.os=w1.os) (h2:w2.tape=w1.tape) (h3:w2.output=w1.output):Evo M B w M1 B1 w2 where
 os:=h1.trans e.os
 tape:=h2.trans e.tape
 output:=h3.trans e.output
 size:=by rw [h];exact e.size
 out g hg hB:=by rw [h];exact e.out g hg hB
 memle:=e.memle
 memnew:=e.memnew
 own:=e.own
theorem Evo.refl' (M:Mem) {B B':List Nat} (w:World) (h:∀ g∈B',g∈B):Evo M B w M B' w:=(Evo.refl M B w).weaken h
theorem Inv.box {ts:List T} (h:Inv n R M F G (T.blocksC ts++H) a w) (e:Nat):Inv n R M F G ((T.box w.heap.size e ts).blocks++H) a (w.alloc (.cells (T.vals ts).toArray e)):=by
 have:=h.alloc (.cells (T.vals ts).toArray e);simpa [T.blocks] using this
theorem Ayk {P:Program} {t:Nat} {z:D} (h:zeroT P t=some z):∃ i v,P.info? t=some i/\i.zero=some v/\constOK v=true/\z=constD v:=by
 unfold zeroT at h;cases hi:P.info? t with
 | none=>simp [hi] at h
 | some i=>
  simp only [hi,Option.bind_some] at h
  split at h
  ·rename_i v hv
   split at h
   ·rename_i hc;simp only [zJ] at h;exact ⟨i,v,rfl,hv,hc,h.symm⟩
   ·cases h
  ·cases h
theorem Aj7 {P:Program} {t:Nat} {i:TypeInfo} {v:Value} (hi:P.info? t=some i) (hv:i.zero=some v) (w:World):(zeroValue t).run P w=.ok v w:=by
 simp [zeroValue,typeInfo,hi,hv]
theorem Ag1 {M:Mem} {P:Program} {t:Nat} {z:D} (h:zeroT P t=some z):∃ (i:TypeInfo) (v:Value) (u:T),P.info? t=some i/\i.zero=some v/\u.erase=z/\u.val=v/\u.tidy/\Giv M u/\u.blocks=[]:=by
 obtain ⟨i,v,h1,h2,h3,rfl⟩:=Ayk h;obtain ⟨u,a1,a2,a3,a4,a5⟩:=Az2 (M:=M) h3;exact ⟨i,v,u,h1,h2,a1,a2,a3,a4,a5⟩
theorem Baf {P:Program} (h:Inv n R M F G [] a w) {t:Nat} {z:D} (hz:zeroT P t=some z) (dst:Option Nat) (hd:∀ d,dst=some d->d<n) :
  ∃ v w',(Instr.alloc t true (.tuple #[])).run P w=.ok v w'/\Post n R M (keys (Aa0 G)) w (fin F dst (.box z.cells)) (a.put dst v) w':=by
 obtain ⟨i,v,u,h1,h2,rfl,rfl,h5,h6,h7⟩:=Ag1 (M:=M) hz;obtain ⟨c1,c2,c3,c4,c5⟩:=Aci h6 h5;have hb:=Inv.box (ts:=u.cells) (H:=[]) (by rw [c5,h7];exact h) t;have:=Ace (M:=M) (w:=w) (B:=keys (Aa0 G)) hb c3 (Abj (show Giv M (.box w.heap.size t u.cells) from c4)) dst hd (by
  have e:=(Evo.refl' M w (B:=keys (Aa0 G)) (B':=keys (Aa0 G)) (fun _ h=>h)).alloc (.cells (T.vals u.cells).toArray t);refine e.weaken fun g hg=>?_;simp only [T.blocks,c5,h7,keys,List.append_nil,List.map_append,List.map_cons,List.map_nil,List.mem_append,List.mem_singleton] at hg;rcases hg with hg | hg
  ·exact List.mem_cons_of_mem _ hg
  ·rw [hg];exact List.mem_cons_self)
 simp only [T.erase,T.eraseC_eq,c1] at this;refine ⟨_,_,?_,this⟩
 ·simp only [Instr.alloc,Sem.run_bind,Aj7 h1 h2,Result.andThen_ok,newVar,newRow,run_newObj,Sem.run_pure,T.val,c2,World.alloc]
theorem Ayr {E:Env} (h:Inv n R M F G [] a w) {t e:Nat} (hz:bldT E t=some e) (dst:Option Nat) (hd:∀ d,dst=some d->d<n) :
  ∃ v w',(Instr.alloc t true (.tuple #[])).run E.P w=.ok v w'/\Post n R M (keys (Aa0 G)) w (fin F dst (.bld t e [])) (a.put dst v) w':=by
 obtain ⟨i,h1,h2⟩:∃ i,E.P.info? t=some i/\i.zero=some (.agg #[.pointer none,.slice none 0 0]):=by
  unfold bldT at hz
  split at hz
  ·rename_i cs _ hcs
   split at hz
   ·rename_i hl;obtain ⟨i,h1,h2⟩:=Option.bind_eq_some_iff.1 hcs;refine ⟨i,h1,h2.trans ?_⟩;rw [← Array.toArray_toList (xs:=cs),hl]
   ·cases hz
  ·cases hz
 have hb:=Inv.box (ts:=[.leaf (.lit (.pointer none)) (.pointer none),.nil]) (H:=[]) (by simpa [T.blocksC,T.blocks] using h) t;have hbl:(T.box w.heap.size t [.leaf (.lit (.pointer none)) (.pointer none),.nil]).blocks=(T.bld (.pointer (some ⟨w.heap.size,0,none⟩)) [(w.heap.size,.cells #[.pointer none,.slice none 0 0] t (0,0))] t e []).blocks:=by simp [T.blocks,T.blocksC,T.vals,T.val]
 rw [hbl] at hb;have:=Ace (M:=M) (w:=w) (B:=keys (Aa0 G)) hb trivial (Abj (show Giv M _ from ⟨_,_,rfl,.inl rfl,.inl ⟨rfl,rfl⟩⟩)) dst hd (by
  have e:=(Evo.refl' M w (B:=keys (Aa0 G)) (B':=keys (Aa0 G)) (fun _ h=>h)).alloc (.cells (T.vals [.leaf (.lit (.pointer none)) (.pointer none),.nil]).toArray t);refine e.weaken fun g hg=>?_;simp only [T.blocks,keys,List.append_nil,List.map_append,List.map_cons,List.map_nil,List.mem_append,List.mem_singleton] at hg;rcases hg with hg | hg
  ·exact List.mem_cons_of_mem _ hg
  ·rw [hg];exact List.mem_cons_self)
 refine ⟨_,_,?_,this⟩;simp only [Instr.alloc,Sem.run_bind,Aj7 h1 h2,Result.andThen_ok,newVar,newRow,run_newObj,Sem.run_pure,T.val,World.alloc,T.vals,Value.cells]
theorem Bdz {P:Program} {t:Nat} {v:Value} {d:D} {E:Env} (h:Inv n R M F G [] a w) {x:Operand} (hx:Fits n x) {F1:Fr} (ht:takeOp E F x=some (d,F1)) (dst:Option Nat) (hd:∀ d,dst=some d->d<n) :
  ∃ v w',(Instr.box t (a.eval x)).run P w=.ok v w'/\Post n R M (keys (Aa0 G)) w (fin F1 dst (.box d.cells)) (a.put dst v) w':=by
 obtain ⟨u,G1,rfl,h2,h3,h4,h5,h6⟩:=Af5 h hx ht;obtain ⟨c1,c2,c3,c4,c5⟩:=Aci h4 h3;have hb:=Inv.box (ts:=u.cells) (H:=[]) (by rw [c5];exact h5) t;have:=Ace (M:=M) (w:=w) (B:=keys (Aa0 G)) hb c3 (Abj (show Giv M (.box w.heap.size t u.cells) from c4)) dst hd (by
  have e:=(Evo.refl' M w (B:=keys (Aa0 G)) (B':=keys (Aa0 G1++(u.blocks++[]))) (fun g hg=>by have:=h6 g hg;simpa [keys] using this)).alloc (.cells (T.vals u.cells).toArray t);refine e.weaken fun g hg=>?_;simp only [T.blocks,c5,keys,List.append_nil,List.map_append,List.map_cons,List.mem_append,List.mem_cons] at hg ⊢;rcases hg with hg | hg | hg
  ·exact .inr (.inl hg)
  ·exact .inl hg
  ·exact .inr (.inr hg))
 simp only [T.erase,T.eraseC_eq,c1] at this;refine ⟨_,_,?_,this⟩
 ·rw [← h2];simp only [Instr.box,Sem.run_bind,newVar,newRow,run_newObj,Result.andThen_ok,Sem.run_pure,T.val,c2,World.alloc]
theorem Asn:∀ (l:List Value) (off i:Nat) (cs:Array Value),off+i+l.length<=cs.size ->
  (l.zipIdx i).foldl (fun cs (x:Value×Nat)=>cs.setIfInBounds (off+x.2) x.1) cs=(cs.toList.take (off+i)++l++cs.toList.drop (off+i+l.length)).toArray
 | [],off,i,cs,h=>by simp
 | v::l,off,i,cs,h=>by
  simp only [List.zipIdx_cons,List.foldl_cons];rw [Asn l off (i+1) (cs.setIfInBounds (off+i) v) (by simp at h ⊢;omega)];have e:=list_seg_step cs.toList (off+i) v l (by simp at h ⊢;omega);congr 1;simpa [Array.toList_setIfInBounds,Nat.add_assoc] using e
theorem Asi {place:Nat->Option (Nat×Nat)} {cells:Array Value} {i:Nat} {v:Value} {rest:List (Nat×Value)} {off size:Nat} (hp:place i=some (off,size)) (h1:v.cells.size=size) (h2:off+size<=cells.size) :
  Instr.fill place cells ((i,v)::rest)=Instr.fill place (cells.toList.take off++v.cells.toList++cells.toList.drop (off+size)).toArray rest:=by
 simp only [Instr.fill,hp];have hc:(decide (v.cells.size≠size) || decide (off+v.cells.size > cells.size))=false:=by
  simp only [h1,ne_eq,not_true_eq_false,decide_false,Bool.false_or,decide_eq_false_iff_not];omega
 rw [hc];simp only [Bool.false_eq_true,if_false];congr 1;have:=Asn v.cells.toList off 0 cells (by simp;omega);rw [Nat.add_zero] at this;rw [← Array.foldl_toList,Array.toList_zipIdx];rw [show (off+size)=off+v.cells.toList.length by simp [h1]];exact this
theorem Aug {M:Mem} {place:Nat->Option (Nat×Nat)}:∀ (ps:List (Nat×T)) {ts:List T} {cs:List D},(∀ x∈ps,x.2.tidy/\Giv M x.2)->T.tidyC ts->T.wfC M ts->fillD place (ts.map T.erase) (ps.map fun x=>(x.1,x.2.erase))=some cs ->
  ∃ ts',ts'.map T.erase=cs/\Instr.fill place (T.vals ts).toArray (ps.map fun x=>(x.1,x.2.val))=some (T.vals ts').toArray/\T.tidyC ts'/\T.wfC M ts' /\
   ∃ rest,(T.blocksC ts'++rest).Perm (T.blocksC ts++T.blocksC (ps.map Prod.snd))
 | [],ts,cs,_,ht,hw,h=>by
  simp only [List.map_nil,fillD,zJ] at h;subst h;exact ⟨ts,rfl,rfl,ht,hw,[],by simp [T.blocksC]⟩
 | (i,t)::ps,ts,cs,hp,ht,hw,h=>by
  simp only [List.map_cons,fillD] at h;cases hpl:place i with
  | none=>simp [hpl] at h
  | some q=>
   obtain ⟨off,size⟩:=q;simp only [hpl] at h
   split at h
   ·rename_i hc;obtain ⟨hc1,hc2⟩:=hc;obtain ⟨g1,g2⟩:=hp (i,t) (by simp);obtain ⟨c1,c2,c3,c4,c5⟩:=Aci g2 g1;have hlen:t.cells.length=size:=by rw [← hc1,← c1];simp
    rw [← c1,← List.map_take,← List.map_drop,← List.map_append,← List.map_append] at h;have ht':T.tidyC (ts.take off++t.cells++ts.drop (off+size)):=by
     rw [T.tidyC_iff] at ht c3 ⊢;intro x hx;rcases List.mem_append.1 hx with hx | hx
     ·rcases List.mem_append.1 hx with hx | hx
      ·exact ht x (List.mem_of_mem_take hx)
      ·exact c3 x hx
     ·exact ht x (List.mem_of_mem_drop hx)
    have hw':T.wfC M (ts.take off++t.cells++ts.drop (off+size)):=by
     rw [T.wfC_iff] at hw c4 ⊢;intro x hx;rcases List.mem_append.1 hx with hx | hx
     ·rcases List.mem_append.1 hx with hx | hx
      ·exact hw x (List.mem_of_mem_take hx)
      ·exact c4 x hx
     ·exact hw x (List.mem_of_mem_drop hx)
    obtain ⟨ts',b1,b2,b3,b4,rest,b5⟩:=Aug ps (fun x hx=>hp x (by simp [hx])) ht' hw' h;refine ⟨ts',b1,?_,b3,b4,rest++T.blocksC ((ts.drop off).take size),?_⟩
    ·rw [List.map_cons,Asi hpl (v:=t.val)]
     ·rw [← b2];congr 1;simp only [T.vals_append,c2];simp [T.vals_eq,List.map_take,List.map_drop]
     ·have:=congrArg List.length c2;simp at this;omega
     ·simp at hc2 ⊢;exact hc2
    ·rw [← List.append_assoc];refine (b5.append_right _).trans ?_;have hsplit:T.blocksC ts=T.blocksC (ts.take off)++(T.blocksC ((ts.drop off).take size)++T.blocksC (ts.drop (off+size))):=by
      rw [← T.blocksC_append,← List.drop_drop,List.take_append_drop,← T.blocksC_append,List.take_append_drop]
     rw [hsplit];simp only [T.blocksC_append,List.map_cons,T.blocksC,c5,List.append_assoc];refine List.Perm.append_left _ ?_;refine List.Perm.trans ?_ (List.perm_append_comm_assoc _ _ _);refine List.Perm.trans ?_ (List.Perm.append_left _ (List.perm_append_comm_assoc _ _ _).symm);refine List.Perm.trans ?_ ((List.perm_append_comm_assoc _ _ _));refine List.Perm.append_left _ ?_;refine List.Perm.append_left _ ?_;exact List.perm_append_comm
   ·cases h
end
end Go.Own
