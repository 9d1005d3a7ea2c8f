/- An interpreter of function bodies, sound. No conditions. -/
import Derived.RangeFuncBox
import Derived.RangeFuncLeaves
import Derived.OwnWalkIn
import Derived.Test.YtockohmmmlhhfacGreatDoorOwn26
import Derived.Test.YtockohmmmlhhfacGreatDoorOwn17
set_option linter.all false
namespace Go.Own
open Go.Lib Go.RowKit
section
variable {P:Program} {w:World}
theorem Ahc {W W':World} {row:Option Nat} {base e size k:Nat} {v:Value} {xs:List Value} (hr:W.ownsRow base e size v k xs) (ho:Adk W v) (hg:W.grownBy W' row) (hne:v=.slice none 0 0∨v.ownBlock≠row):Adk W' v:=by
 rcases hr.2 with ⟨rfl,_⟩ | ⟨g,cap,cur,rfl,_,hgb,_⟩
 ·exact Ala
 ·intro g' cur' e' hg' hc u hu;simp only [Value.ownBlock,zJ] at hg';subst hg';have hlt:g<W.heap.size:=(Array.getElem?_eq_some_iff.1 hgb).1;have hb:=hg.block g hlt (by
   rcases hne with h | h
   ·cases h
   ·exact h)
  rw [hb] at hc;exact ho g cur' e' rfl hc u hu
theorem Aip {W:World} {base e size k:Nat} {v:Value} {xs:List Value} {row:Option Nat} (hr:W.ownsRow base e size v k xs) (hrow:∀ r,row=some r->∃ o:Obj,W.heap[r]? = some o/\o.isCells=false):v=.slice none 0 0∨v.ownBlock≠row:=by
 rcases hr.2 with ⟨rfl,_⟩ | ⟨g,cap,cur,rfl,_,hgb,_⟩
 ·exact .inl rfl
 ·refine .inr fun e'=>?_;obtain ⟨o,ho,hc⟩:=hrow g (by simpa [Value.ownBlock] using e'.symm);rw [hgb] at ho;cases ho;cases hc
theorem Au2 {β:Type} (n₀ B:Nat) (t e:TypeId) (size:Nat) (k:β->Nat) (f:β->List Value) (G:β->Value->Prop):Own (fun s W=>∃ v,Boxed W B t v/\W.ownsRow n₀ e size v (k s) (f s)/\Adk W v/\G s v):=by
 rintro s X Y row ⟨v,hv,hr,ho,hG⟩ hg hrow;have hn:=Aip hr hrow;refine ⟨v,hv.kept hg (fun e'=>?_),hr.kept hg (hn.imp (fun e=>by rw [e];rfl) id),Ahc hr ho hg hn,hG⟩;obtain ⟨o,ho,hc⟩:=hrow B e'.symm;rw [show X.heap[B]? = _ from hv] at ho;cases ho;cases hc
theorem Aot {F:Fence} {N:Nat} {ops:Array Oper} {rest:List Oper} {o:Oper} {a:Act} {Q:Exit->Act->World->Prop} (hgd:o.guard=none) (s x:Operand) (t e:Nat)
  (ho:o.op=.call { callee:=.builtin .append,args:=#[s,x],argTypes:=#[t,t] }) {i:TypeInfo} {z:Value} {k by_:Nat} (ht:P.underlying t=some (.slice e)) (hi:P.info? e=some i) (hz:i.zero=some z) (hk:i.size=k) (hb:i.bytes=by_) (hzk:z.cells.size=k) (hz1:∀ u∈z.cells.toList,u.oneCell'=true)
  {base n m:Nat} {v y:Value} {xs news:List Value} (hs:a.eval s=v) (hx:a.eval x=y) (hown:w.ownsRow base e k v n xs) (hro:Adk w v) (hy:Gives P w k m y news) (h1:∀ u∈news,u.oneCell'=true) (hmx:n+m<=maxLen) (hby:(n+m)*by_<=140737488355328) (hbase:base<=w.heap.size)
  (h:∀ v' w',w'.ownsRow base e k v' (n+m) (xs++news)->w.grownBy w' v.ownBlock->(n+m=0->v=.slice none 0 0->v'=.slice none 0 0)->Adk w' v'->wpListIn F N P ops Q rest (a.put o.dst v') w'):wpListIn F N P ops Q (o::rest) a w:=by
 refine wpListIn_plain hgd fun K hK=>?_;obtain ⟨v',w',hr,q1,q2,q3,q4⟩:=Avv (ty:=o.type) ht hi hz hk hb hzk hz1 hown hro hy h1 hmx hby hbase;unfold Oper.wpIn;refine ⟨?_,?_⟩
 ·simp [Oper.about,ho,resolve,Target.leads,Sem.run_pure]
 ·rw [Oper.semAt_plain F _ _ (by rw [ho];intro c hc;cases hc)];simp only [execOp,ho,resolve,invoke,builtin,Sem.run_bind,Sem.run_pure,Result.andThen_ok,List.map_toArray,List.map_cons,List.map_nil,hs,hx,hr];exact hK _ _ (h v' w' q1 q2 q3 q4)
end
def Aou (w:World) (sv:Value) (zs:List Int):Prop:=
 (zs=[]/\∃ A c,sv=.slice A 0 c)∨∃ b off cap,sv=.slice (some ⟨b,off,none⟩) zs.length cap/\∀ j,j<zs.length->w.cell? ⟨b,off+j,none⟩=some (.int .i64 (zs[j]?.getD 0))
structure CollectOK (P:Program) (f v e by_:Nat):Prop where
 run:∀ (Bs Bo:Nat) (sv:Value) (zs:List Int) (w:World),w.cell? ⟨Bs,Bo,none⟩=some sv->Aou w sv zs->zs.length*by_<=140737488351232 ->
  Calls P f #[.func (.func v) #[] #[.pointer (some ⟨Bs,Bo,none⟩)]] w fun q w'=>∃ v',q=.returned v'/\w'.ownsRow w.heap.size e 1 v' zs.length (zs.map (Value.int .i64))/\(zs=[]->v'=.slice none 0 0)/\Adk w' v'/\Below w.heap.size w w'
def upto (zs:List Int) (k:Nat):List Int:=(List.range k).map fun j=>zs[j]?.getD 0
theorem Asq (zs:List Int) (k:Nat):upto zs (k+1)=upto zs k++[zs[k]?.getD 0]:=by simp [upto,List.range_succ]
theorem Aw4 (zs:List Int) (k:Nat):(upto zs k).length=k:=by simp [upto]
theorem Asr (zs:List Int) {k:Nat} (hk:k<=zs.length):upto zs k=zs.take k:=by
 apply List.ext_getElem
 ·simp [upto,hk]
 ·intro i h1 h2;have:i<zs.length:=by simp [upto] at h1;omega
  simp [upto,this]
theorem Bbz (zs:List Int):upto zs zs.length=zs:=by rw [Asr zs (Nat.le_refl _),List.take_length]
theorem Ayo:∀ {es:List (List D)},es.all Apm=true->∃ zs:List Int,es=zs.map fun z=>[D.lit (.int .i64 z)]
 | [],_=>⟨[],rfl⟩
 | x::es,h=>by
  simp only [List.all_cons,Bool.and_eq_true] at h;obtain ⟨zs,rfl⟩:=Ayo h.2;have hx:=h.1;unfold Apm at hx
  split at hx
  ·exact ⟨_::zs,rfl⟩
  ·cases hx
theorem Apl:∀ {tss:List (List T)} {zs:List Int} {M:Mem},tss.map (·.map T.erase)=(zs.map fun z=>[D.lit (.int .i64 z)])->T.wfE M tss->T.valsE tss=zs.map (Value.int .i64)
 | [],[],_,_,_=>rfl
 | [],_::_,_,h,_=>by cases h
 | _::_,[],_,h,_=>by cases h
 | x::tss,z::zs,M,h,hw=>by
  simp only [List.map_cons,List.cons.injEq] at h;obtain ⟨hx,ht⟩:=h;simp only [T.wfE] at hw
  match x,hx,hw.1 with
  | [u],hx,hwx=>
   simp only [List.map_cons,List.map_nil,List.cons.injEq,and_true] at hx;obtain ⟨v,rfl⟩:∃ v,u=.leaf (.lit (.int .i64 z)) v:=by
    cases u with
    | leaf d v=>simp only [T.erase] at hx;subst hx;exact ⟨v,rfl⟩
    | _=>simp [T.erase] at hx
   have hv:v=.int .i64 z:=by
    have:=hwx.1;simp only [T.wf,RI] at this;rcases this with ⟨h,_⟩ | h
    ·cases h
    ·exact h.1
   subst hv;have:=Apl ht hw.2;simp only [T.valsE,T.vals,T.val,List.map_cons,this,List.cons_append,List.nil_append]
  | [],hx,_=>simp at hx
  | _::_::_,hx,_=>simp at hx
theorem Atx {E:Env} {f v e by_:Nat} (hm0:E.mode f 0≠.inout) (hrun:∀ args w,(callFunc f args).run E.P w=.ok (.enter f args) w) (hb0:0<by_) (hc:CollectOK E.P f v e by_)
  {ds:List D} {r:D} {outs:List D} (h:Ahb v by_ ds=some (r,outs)):FnOK E f ds r outs:=by
 unfold Ahb at h
 split at h
 ·rename_i g es
  split at h
  ·rename_i hn;obtain ⟨rfl,hall,hby⟩:=hn;simp only [zJ,Prod.mk.injEq] at h;obtain ⟨rfl,rfl⟩:=h;intro M w ts hts htg hln hblk hmem hgd;rcases ts with _ | ⟨t1,_ | ⟨t2,rs⟩⟩
   case nil=>simp at hts
   case cons.cons=>simp at hts
   ·simp only [List.map_cons,List.map_nil,List.cons.injEq,and_true] at hts;obtain ⟨u,rfl⟩:∃ u,t1=.leaf (.fn g [.ref [.sl es]]) u:=by
     cases t1 with
     | leaf d v=>simp only [T.erase] at hts;subst hts;exact ⟨v,rfl⟩
     | _=>simp [T.erase] at hts
    have hg:RI M (.fn g [.ref [.sl es]]) u:=(htg (.leaf (.fn g [.ref [.sl es]]) u) (by simp)).2;have hlents:Aaj E f 0 [T.leaf (.fn g [.ref [.sl es]]) u]=[]:=by simp [Aaj,hm0]
    rw [hlents];unfold Does;rw [hrun];obtain ⟨Bs,Bo,sv,rfl,hcell,hsv⟩:∃ Bs Bo sv,u=.func (.func g) #[] #[.pointer (some ⟨Bs,Bo,none⟩)]/\w.cell? ⟨Bs,Bo,none⟩=some sv/\RI M (.sl es) sv:=by
     simp only [RI,RCs] at hg;obtain ⟨vs,rfl,p,vs',rfl,⟨Bs,Bo,us,rfl,hA,sv,us',rfl,hsv,rfl⟩,rfl⟩:=hg;exact ⟨Bs,Bo,sv,rfl,by have:=hA.heap hmem 0 sv rfl;simpa using this,by simp only [RI];exact hsv⟩
    obtain ⟨A,c,tss,rfl,hmx,hes,htd,hwf,hA⟩:=Aib hmem hsv;obtain ⟨zs,hzs⟩:=Ayo hall;have hvals:=Apl (hes.trans hzs) hwf;have hlz:es.length=zs.length:=by rw [hzs,List.length_map]
    have hI:Aou w (.slice A es.length c) zs:=by
     rcases hA with h0 | ⟨g0,b0,k',rfl,hk0,hk',hcells⟩
     ·subst h0;have:zs=[]:=List.eq_nil_of_length_eq_zero (by simpa using hlz.symm);exact .inl ⟨this,A,c,rfl⟩
     ·refine .inr ⟨g0,b0,c,by rw [hlz],fun j hj=>?_⟩;refine hcells j _ ?_;rw [hvals,List.getElem?_map,List.getElem?_eq_getElem hj];rfl
    have hnx:T.blocksE tss=[]:=Agd htd hwf (by rw [hes];exact Anb hsv);have hmem':∀ {w':World},Below w.heap.size w w'->Aal M w':=fun hb g o hgo=>by rw [hb.block g (hmem.lt hgo)];exact hmem g o hgo
    have evo:∀ {w':World} {B:List Nat},Below w.heap.size w w'->(∀ g∈B,w.heap.size<=g)->Evo M (keys (T.blocksC [T.leaf (.fn g [.ref [.sl es]]) (.func (.func g) #[] #[.pointer (some ⟨Bs,Bo,none⟩)])])) w M B w':=fun hb hB=>
     ⟨hb.os,hb.tape,hb.output,hb.size,fun g hg _=>hb.block g hg,Mem.le_refl M,fun _ _ h=>.inl h,fun g hg=>.inr (hB g hg)⟩
    refine Calls.mono (hc.run Bs Bo _ zs w hcell hI (by rw [← hlz];exact hby)) ?_;rintro q w' ⟨v',rfl,hown,hnil,hro,hb⟩;by_cases h0:zs=[]
    ·have hx:es=[]:=List.eq_nil_of_length_eq_zero (by rw [hlz,h0];rfl);rw [hnil h0];subst hx;refine ⟨M,.nil,[],rfl,rfl,trivial,trivial,rfl,by simp,rfl,?_,hmem' hb,?_⟩
     ·exact BlkOK.nil _ _
     ·exact evo hb (by simp [T.blocks,T.blocksC,keys])
    ·have hpos:0<zs.length:=List.length_pos_iff.2 h0;rcases hown.2 with ⟨_,h1⟩ | ⟨g',cap,cur,rfl,hge,hg',hnc,hcm,hcs,htake⟩
     ·omega
     ·have hkk:∀ x∈tss,x.length=1:=fun x hx=>by
       have:x.map T.erase∈tss.map (·.map T.erase):=List.mem_map.2 ⟨x,hx,rfl⟩;rw [hes,hzs] at this;obtain ⟨y,_,hy⟩:=List.mem_map.1 this;have:=congrArg List.length hy;simpa using this.symm
      have hlen:tss.length=zs.length:=by rw [← hlz,← hes,List.length_map]
      have hcur:T.valsE tss++cur.toList.drop (zs.length*1)=cur.toList:=by
       rw [hvals,← htake,List.take_append_drop]
      have hblk':T.blocks (.own g' cap e (cur.toList.drop (zs.length*1)) tss)=[(g',.cells cur e (0,0))]:=by
       simp only [T.blocks,hnx,hcur]
      refine ⟨M,.own g' cap e (cur.toList.drop (zs.length*1)) tss,[],by simp only [T.val,hlen],by simp only [T.erase,T.eraseE_eq,hes],?_,?_,rfl,by simp,rfl,?_,hmem' hb,?_⟩
      ·simpa [T.tidy] using htd
      ·simp only [Aco,Giv,T.wf];refine ⟨⟨1,Nat.one_pos,hkk,?_⟩,⟨by omega,by omega⟩,hcm,?_,hwf⟩
       ·rw [List.length_drop,hlen,Array.length_toList,hcs];omega
       ·intro u hu;exact hro g' cur e rfl hg' u (List.mem_of_mem_drop hu)
      ·rw [hblk'];refine ⟨by simp [T.blocksC],?_,?_⟩
       ·intro x hx;simp only [T.blocksC,List.append_nil,List.mem_singleton] at hx;subst hx;exact hg'
       ·intro x hx;simp only [T.blocksC,List.append_nil,List.mem_singleton] at hx;subst hx;cases hM:M g' with
        | none=>rfl
        | some o=>exact absurd (hmem.lt hM) (by omega)
      ·rw [hblk'];exact evo hb (by simp [T.blocksC,keys];exact hge)
  ·cases h
 ·cases h
end Go.Own
namespace Go.Own
open Go.Lib Go.RowKit
structure ValuesOK (P:Program) (f v1 t:Nat):Prop where
 run:∀ (A:Option Addr) (n c:Nat) (w:World),Calls P f #[.slice A n c] w fun q w'=>q=.returned (.func (.func v1) #[] #[.pointer (some ⟨w.heap.size,0,none⟩)])/\w'=w.alloc (.cells #[.slice A n c] t)
theorem Avm {E:Env} {f v1 t:Nat} (hm0:E.mode f 0≠.inout) (hrun:∀ args w,(callFunc f args).run E.P w=.ok (.enter f args) w) (hc:ValuesOK E.P f v1 t)
  {ds:List D} {r:D} {outs:List D} (h:Ai1 v1 ds=some (r,outs)):FnOK E f ds r outs:=by
 unfold Ai1 at h
 split at h
 ·rename_i es;simp only [zJ,Prod.mk.injEq] at h;obtain ⟨rfl,rfl⟩:=h;intro M w ts hts htg hln hblk hmem hgd;rcases ts with _ | ⟨t1,_ | ⟨t2,rs⟩⟩
  case nil=>simp at hts
  case cons.cons=>simp at hts
  ·simp only [List.map_cons,List.map_nil,List.cons.injEq,and_true] at hts;obtain ⟨v,rfl⟩:∃ v,t1=.leaf (.sl es) v:=by
    cases t1 with
    | leaf d v=>simp only [T.erase] at hts;subst hts;exact ⟨v,rfl⟩
    | _=>simp [T.erase] at hts
   have hg:RI M (.sl es) v:=(htg (.leaf (.sl es) v) (by simp)).2;have hlents:Aaj E f 0 [T.leaf (.sl es) v]=[]:=by simp [Aaj,hm0]
   rw [hlents];unfold Does;rw [hrun];obtain ⟨A,n,c,rfl⟩:∃ A n c,v=.slice A n c:=by
    simp only [RI] at hg;obtain ⟨A,n,c,h,_⟩:=hg;exact ⟨A,n,c,h⟩
   show Calls E.P f #[.slice A n c] w _;refine Calls.mono (hc.run A n c w) ?_;generalize Value.slice A n c=v at hg ⊢;rintro q w' ⟨rfl,rfl⟩;have hn:M w.heap.size=none:=by
    cases hM:M w.heap.size with
    | none=>rfl
    | some o=>exact absurd (hmem.lt hM) (Nat.lt_irrefl _)
   have hat:(w.alloc (.cells #[v] t)).heap[w.heap.size]? = some (.cells #[v] t (0,0)):=by
    show (w.heap.push _)[w.heap.size]? = _;rw [Array.getElem?_push_size]
   have hold:∀ g,g<w.heap.size->(w.alloc (.cells #[v] t)).heap[g]? = w.heap[g]?:=fun g hg=>by
    show (w.heap.push _)[g]? = _;rw [Array.getElem?_push,if_neg (by omega)]
   have hle:M.le fun g=>if g=w.heap.size then some (.cells #[v] t (0,0)) else M g:=fun g o hgo=>by
    show (if g=w.heap.size then _ else _)=_;rw [if_neg (fun e=>by rw [e,hn] at hgo;cases hgo)];exact hgo
   refine ⟨fun g=>if g=w.heap.size then some (.cells #[v] t (0,0)) else M g,.leaf (.fn v1 [.ref [.sl es]]) (.func (.func v1) #[] #[.pointer (some ⟨w.heap.size,0,none⟩)]),[],rfl,rfl,by simp [T.tidy],?_,rfl,by simp,rfl,BlkOK.nil _ _,?_,?_⟩
   ·show RI _ _ _;simp only [RI,RCs];refine ⟨[.pointer (some ⟨w.heap.size,0,none⟩)],rfl,_,[],rfl,⟨w.heap.size,0,[v],rfl,⟨#[v],t,(0,0),by simp,?_⟩,v,[],rfl,?_,rfl⟩,rfl⟩
    ·simp
    ·have:=RI.mono hle _ _ hg;simpa only [RI] using this
   ·intro g o hgo;have hgo:(if g=w.heap.size then some (Obj.cells #[v] t (0,0)) else M g)=some o:=hgo
    split at hgo
    ·rename_i e;cases hgo;rw [e];exact hat
    ·rw [hold g (hmem.lt hgo)];exact hmem g o hgo
   ·exact ⟨rfl,rfl,rfl,by show _<=(w.heap.push _).size;simp,fun g hg _=>hold g hg,hle,fun g o hgo=>by
     have hgo:(if g=w.heap.size then some (Obj.cells #[v] t (0,0)) else M g)=some o:=hgo
     split at hgo
     ·rename_i e;exact .inr (.inr (by omega))
     ·exact .inl hgo,fun g hg=>by simp [T.blocks,T.blocksC,keys] at hg⟩
 ·cases h
end Go.Own
