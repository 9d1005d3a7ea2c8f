/- An interpreter of function bodies, sound. No conditions. -/
import Derived.Laws.AppendOwn
import Derived.Laws.Entries
import Derived.Laws.StructEq
import Derived.Shelf.Abstract
import Derived.Test.YtockohmmmlhhfabGreatDoorOwn8
set_option linter.all false
namespace Go.Own
open D
theorem Bbq {M:Mem} {G:FT} {c:D} {u:Value} (h:VC M G c u):∃ t:T,t.erase=c/\t.val=u/\t.tidy/\Ac8 M G t/\t.blocks=[]:=by
 obtain ⟨h1,h2 | ⟨rfl,rfl⟩⟩:=h
 ·refine ⟨.leaf c u,by simp [T.erase],by simp [T.val],?_,⟨h2,h1⟩,by simp [T.blocks]⟩;cases c<;>simp_all [T.tidy,L1,RI]
 ·exact ⟨.nil,by simp [T.erase],by simp [T.val],by simp [T.tidy],by simp [Ac8,T.wf],by simp [T.blocks]⟩
theorem Bad {M:Mem} {G:FT} {d:D} {v:Value} (h:VOK M G d v):∃ t:T,t.erase=d/\t.val=v/\t.tidy/\Aao M G t/\t.blocks=[]:=by
 have leaf:∀ d,LOK M G d v->∃ t:T,t.erase=d/\t.val=v/\t.tidy/\Aao M G t/\t.blocks=[]:=fun d k=>by
  refine ⟨.leaf d v,by simp [T.erase],by simp [T.val],?_,k,by simp [T.blocks]⟩;cases d<;>simp_all [T.tidy,LOK,L1,RI]
 cases d with
 | agg cs=>
  obtain ⟨vs,rfl,h⟩:=h;clear leaf;have:∃ ts:List T,ts.map T.erase=cs/\T.vals ts=vs/\T.tidyC ts/\(∀ c∈ts,Ac8 M G c)/\T.blocksC ts=[]:=by
   induction h with
   | nil=>exact ⟨[],rfl,rfl,trivial,by simp,by simp [T.blocksC]⟩
   | cons p _ ih=>
    obtain ⟨ts,b1,b2,b3,b4,b5⟩:=ih;obtain ⟨t,a1,a2,a3,a4,a5⟩:=Bbq p;refine ⟨t::ts,by simp [a1,b1],by simp [T.vals,a2,b2],⟨a3,b3⟩,?_,by simp [T.blocksC,a5,b5]⟩;intro c hc;rcases List.mem_cons.1 hc with rfl | hc
    ·exact a4
    ·exact b4 c hc
  obtain ⟨ts,b1,b2,b3,b4,b5⟩:=this;exact ⟨.agg ts,by simp [T.erase,T.eraseC_eq,b1],by simp [T.val,b2],b3,b4,by simp [T.blocks,b5]⟩
 | own es=>
  cases es with
  | nil=>simp only [VOK] at h;subst h;exact ⟨.nil,by simp [T.erase],by simp [T.val],by simp [T.tidy],by simp [Aao,T.wf],by simp [T.blocks]⟩
  | cons=>exact leaf _ h
 | _=>exact leaf _ h
theorem Bdw {M:Mem} {G:FT} {c:D} {u:Value} (h:VC M G c u):VOK M G c u:=by
 obtain ⟨h1,h2 | ⟨rfl,rfl⟩⟩:=h
 ·cases c with
  | agg=>simp [L1,RI] at h2
  | own=>simp [L1,RI] at h2
  | fn f cs=>exact Abf (Am5 h2)
  | _=>exact Abf (by simpa only [LOK] using h2)
 ·rfl
def keys (B:Blks):List Nat:=B.map Prod.fst
section
variable {n:Nat} {R:Nat->Value} {M:Mem} {F F':Fr} {G:FT} {H:Blks} {a:Act} {w:World}
def Post (n:Nat) (R:Nat->Value) (M:Mem) (B:List Nat) (w:World) (F':Fr) (a':Act) (w':World):Prop:=
 ∃ M' G',Inv n R M' F' G' [] a' w'/\Evo M B w M' (keys (Aa0 G')) w'
theorem Ace {B:List Nat} {w1:World} {M':Mem} {F1:Fr} {G1:FT} {t:T} (h:Inv n R M' F1 G1 (t.blocks++[]) a w1) (ht:t.tidy) (hs:Aao M' G1 t) (dst:Option Nat) (hd:∀ d,dst=some d->d<n)
  (e:Evo M B w M' (keys (Aa0 G1++(t.blocks++[]))) w1):Post n R M B w (fin F1 dst t.erase) (a.put dst t.val) w1:=by
 obtain ⟨G',h1,h2⟩:=h.put ht hs dst hd;refine ⟨M',G',h1,e.weaken fun g hg=>?_⟩;have:=h2 g (by simpa [keys] using hg);simpa [keys] using this
theorem Aac (h:Inv n R M F G [] a w) {d:D} {v:Value} (hv:VOK M G d v) (dst:Option Nat) (hd:∀ d,dst=some d->d<n) :
  Post n R M (keys (Aa0 G)) w (fin F dst d) (a.put dst v) w:=by
 obtain ⟨t,a1,a2,a3,a4,a5⟩:=Bad hv;have:=Ace (M:=M) (w:=w) (by rw [a5];exact h) a3 a4 dst hd (B:=keys (Aa0 G)) (by rw [a5];simpa using Evo.refl M (keys (Aa0 G)) w);rw [a1,a2] at this;exact this
end
variable {P:Program}
theorem Bbx {op : BinOp} {t : Nat} {x y z : Value} (h : binV op x y = some z) (w : World) : (binOp op t x y).run P w = .ok z w := by
  cases x <;> cases y <;> simp only [binV] at h <;> try (cases h; done)
  · rename_i k a k' b
    cases op <;> simp only [binOp, Op.shift] at h ⊢
    all_goals
      first
      | (split at h <;> first | (cases h; done) | (rename_i hk; simp only [zJ] at h; subst h; simp [hk, Op.intArith, Op.intBits, Op.intCmp]))
      | skip
    all_goals
      (split at h
       · cases h
       · rename_i hk
         split at h
         · cases h
         · rename_i hb; simp only [zJ] at h; subst h
           have hk' : k = k' := by simpa using hk
           simp [hk', Op.intDiv, hb])
  · rename_i a b
    cases op <;> simp only [binOp, Op.stringOp, zJ] at h ⊢ <;> try (cases h; done)
    all_goals first
      | (subst h; rfl)
      | (split at h
         · rename_i hl
           simp only [zJ] at h; subst h;have : ¬ ((a.size + b.size : Nat) : Int) > 9223372036854775807 := by omega
           have hm : IntKind.i64.max = 9223372036854775807 := by decide
           simp only [hm, this, if_false, Sem.run_pure]
         · cases h)
theorem Au3 {op:BinOp} {x y z:Value} (h:binV op x y=some z):z.oneCell'=true:=by
 cases x<;>cases y<;>simp only [binV] at h<;>try (cases h;done)
 ·cases op<;>simp only at h
  all_goals (repeat' split at h)<;>first | (cases h;done) | (simp only [zJ] at h;subst h;rfl)
 ·cases op<;>simp only at h
  all_goals (repeat' split at h)<;>first | (cases h;done) | (simp only [zJ] at h;subst h;rfl)
theorem Bgm {op:UnOp} {x z:Value} (h:unV op x=some z) (w:World):(Op.unary op x).run P w=.ok z w/\z.oneCell'=true:=by
 cases x<;>simp only [unV] at h<;>try (cases h;done)
 all_goals cases op<;>simp only at h<;>first | (cases h;done) | (simp only [zJ] at h;subst h;simp [Op.unary,Op.intArith,Op.intBits,Value.oneCell'])
end Go.Own
namespace Go.Own
open D
def Bbi (M:Mem) (G:FT):Ptr->Value->Prop
 | .imm cs,v=>RI M (.ref cs) v
 | .loc s ps i o,v=>∃ x,(getT G s).getP ps=some x/\x.node=true/\Ag2 x i o v
theorem Ae5 {t:T} (ht:t.tidy) {es:List (List D)} (h:t.erase=.own es):(∃ g cap e sp ts,t=.own g cap e sp ts/\ts.map (·.map T.erase)=es)∨(t=.nil/\es=[]):=by
 cases t with
 | leaf d v=>simp only [T.erase] at h;subst h;simp [T.tidy] at ht
 | own g cap e sp ts=>simp only [T.erase,D.own.injEq] at h;exact .inl ⟨g,cap,e,sp,ts,rfl,by rw [← T.eraseE_eq];exact h⟩
 | nil=>simp only [T.erase,D.own.injEq] at h;exact .inr ⟨rfl,h.symm⟩
 | _=>simp [T.erase] at h
theorem Amf {t:T} (ht:t.tidy) {cs:List D} (h:t.erase=.box cs):∃ g e ts,t=.box g e ts/\ts.map T.erase=cs:=by
 cases t with
 | leaf d v=>simp only [T.erase] at h;subst h;simp [T.tidy] at ht
 | box g e ts=>simp only [T.erase,D.box.injEq] at h;exact ⟨g,e,ts,rfl,by rw [← T.eraseC_eq];exact h⟩
 | _=>simp [T.erase] at h
theorem Agu {t:T} {es:List (List D)} (h:t.erase=.sl es):t=.leaf (.sl es) t.val:=by
 cases t with
 | leaf d v=>simp only [T.erase] at h;subst h;rfl
 | _=>simp [T.erase] at h
theorem Ash {t:T} {es:List D} (h:t.erase=.ref es):t=.leaf (.ref es) t.val:=by
 cases t with
 | leaf d v=>simp only [T.erase] at h;subst h;rfl
 | _=>simp [T.erase] at h
section
variable {n:Nat} {R:Nat->Value} {M:Mem} {F F':Fr} {G:FT} {H:Blks} {a:Act} {w:World}
theorem Inv.node_wf (h:Inv n R M F G H a w) {s:Nat} {ps:Path} {x:T} (hx:(getT G s).getP ps=some x) (hn:x.node=true):T.wf M x:=Aju (h.okG s) hx hn
theorem Inv.node_tidy (h:Inv n R M F G H a w) {s:Nat} {ps:Path} {x:T} (hx:(getT G s).getP ps=some x):x.tidy:=T.tidy_getP ps (h.tidyG s) hx
theorem Inv.block (h:Inv n R M F G H a w) {s:Nat} {ps:Path} {x:T} (hx:(getT G s).getP ps=some x) {b:Nat×Obj} (hb:b∈x.blocks):w.heap[b.1]? = some b.2/\b∈Aa0 G:=by
 obtain ⟨r,p1,_⟩:=Aeh hx;have:b∈Aa0 G:=p1.mem_iff.1 (by simp [hb]);exact ⟨h.blk.heap b (by simp [this]),this⟩
theorem Ad0 {M:Mem} {d:D} {v:Value} (h:T.wf M (.leaf d v)) (hd:d≠.undef):RI M d v:=by
 rcases h with ⟨hu,_⟩ | h
 ·exact absurd hu hd
 ·exact h
theorem Alk (h:Inv n R M F G H a w) {d:D} {v:Value} (hv:VOK M G d v) {p:Ptr} (hp:ptrOf F d=some p):Bbi M G p v:=by
 cases d with
 | ref cs=>simp only [ptrOf,zJ] at hp;subst hp;exact hv
 | place s ps i o=>simp only [ptrOf,zJ] at hp;subst hp;exact hv
 | alias s ps=>
  obtain ⟨x,hx,hn,rfl⟩:=hv;simp only [ptrOf,h.getAt,hx,Option.map_some] at hp
  split at hp
  ·rename_i cs he;simp only [zJ] at he hp;subst hp;obtain ⟨g,e,ts,rfl,_⟩:=Amf (h.node_tidy hx) he;exact ⟨_,hx,hn,.inr ⟨g,e,ts,rfl,rfl,rfl⟩⟩
  ·rename_i cs he;simp only [zJ] at he hp;subst hp;have e:=Ash he;have hw:=h.node_wf hx hn;rw [e] at hw;exact Ad0 hw (by simp)
  ·cases hp
 | _=>simp [ptrOf] at hp
theorem Ana {k:Nat}:∀ {es:List (List T)} {i:Nat} {e:List T},(∀ x∈es,x.length=k)->es[i]? = some e->∀ j,j<k->(T.valsE es)[i*k+j]? = (T.vals e)[j]?
 | [],i,e,_,h,_,_=>by simp at h
 | x::es,0,e,hk,h,j,hj=>by
  simp only [List.getElem?_cons_zero,zJ] at h;subst h;simp only [T.valsE,Nat.zero_mul,Nat.zero_add];rw [List.getElem?_append_left (by simp [hk x (by simp),hj])]
 | x::es,i+1,e,hk,h,j,hj=>by
  simp only [List.getElem?_cons_succ] at h;simp only [T.valsE];have hx:(T.vals x).length=k:=by simp [hk x (by simp)]
  rw [List.getElem?_append_right (by rw [hx,Nat.succ_mul];omega),hx];have:(i+1)*k+j-k=i*k+j:=by rw [Nat.succ_mul];omega
  rw [this];exact Ana (fun y hy=>hk y (by simp [hy])) h j hj
theorem Aw1 {x:T} {i o:Nat} {v:Value} (hp:Ag2 x i o v) {ec:List T} (he:x.elem i=some ec) :
  ∃ g b L e,v=.pointer (some ⟨g,b,none⟩)/\(g,Obj.cells L e (0,0))∈x.blocks/\∀ j,o+j<ec.length->L[b+j]? = (T.vals ec)[o+j]?:=by
 rcases hp with ⟨g,cap,e,sp,es,k,rfl,hi,hk,rfl⟩ | ⟨g,e,cs,rfl,rfl,rfl⟩
 ·refine ⟨g,i*k+o,_,e,rfl,by simp only [T.blocks];exact List.mem_cons_self,fun j hj=>?_⟩;simp only [T.elem] at he;have hl:ec.length=k:=hk ec (List.mem_of_getElem? he);have hb:i*k+(o+j)<(T.valsE es).length:=by
   rw [Aat hk];have:i*k+k<=es.length*k:=by rw [← Nat.succ_mul];exact Nat.mul_le_mul_right _ hi
   omega
  simp only [List.getElem?_toArray,Nat.add_assoc];rw [List.getElem?_append_left hb];exact Ana hk he (o+j) (by omega)
 ·simp only [T.elem,zJ] at he;subst he;exact ⟨g,o,_,e,rfl,by simp only [T.blocks];exact List.mem_cons_self,fun j hj=>by simp⟩
theorem Aly {x:T} (ht:x.tidy) {i o:Nat} {v:Value} (hp:Ag2 x i o v) {ec:List D} (he:x.erase.elem i=some ec):∃ ts,x.elem i=some ts/\ts.map T.erase=ec:=by
 rw [T.elem_erase x ht] at he;cases h:x.elem i with
 | none=>simp [h] at he
 | some ts=>simp only [h,Option.map_some,zJ] at he;exact ⟨ts,rfl,by rw [← T.eraseC_eq];exact he⟩
end
section
variable {P:Program} {n:Nat} {R:Nat->Value} {M:Mem} {F F':Fr} {G:FT} {H:Blks} {a:Act} {w:World}
theorem Agg {P:Program} {t:Nat} {d:TypeDesc} (hu:P.underlying t=some d) (w:World):(isAgg t).run P w=.ok (isAggT P t) w:=by
 unfold isAgg;rw [Sem.run_bind,run_underlying hu w];simp only [Result.andThen_ok,isAggT,hu];cases d<;>rfl
theorem Acb {P:Program} {t:Nat} {i:TypeInfo} (hi:P.info? t=some i) (w:World):(sizeOf t).run P w=.ok (sizeT P t) w:=by
 simp [sizeOf,typeInfo,hi,sizeT]
theorem Acm {P:Program} {t:Nat} {d:TypeDesc} (h:P.underlying t=some d):∃ i,P.info? t=some i:=by
 unfold Program.underlying at h;cases hq:P.info? t with
 | none=>simp [hq] at h
 | some i=>exact ⟨i,rfl⟩
theorem Agy {P:Program} {t:Nat} {w:World} {g b:Nat} {vs:List Value} {d:TypeDesc} (hu:P.underlying t=some d) (hc:∀ j u,vs[j]? = some u->w.cell? ⟨g,b+j,none⟩=some u) (hl:vs.length=sizeT P t)
  (h1:isAggT P t=false->sizeT P t=1):(loadVar t ⟨g,b,none⟩).run P w=.ok (if isAggT P t then .agg vs.toArray else vs.getD 0 undef) w:=by
 obtain ⟨i,hi⟩:=Acm hu;unfold loadVar;rw [Sem.run_bind,Agg hu w];simp only [Result.andThen_ok]
 split
 ·have hl':=run_loadCells_list (P:=P) w ⟨g,b,none⟩ vs (fun j v hv=>by rw [Addr.add_plain];exact hc j v hv);simp only [Sem.run_bind,Acb hi w,Result.andThen_ok,← hl,hl',Sem.run_pure]
 ·rename_i hag;have hs:=h1 (by simpa using hag);rw [hs] at hl
  match vs,hl with
  | [u],_=>
   have:=hc 0 u rfl;simp only [Nat.add_zero] at this;simp [run_load,this]
theorem RCs.drop {M:Mem}:∀ {cs:List D} {vs:List Value} (k:Nat),RCs M cs vs->RCs M (cs.drop k) (vs.drop k)
 | cs,vs,0,h=>by simpa using h
 | [],vs,k+1,h=>by simp only [RCs] at h;subst h;simp [RCs]
 | c::cs,vs,k+1,h=>by
  simp only [RCs] at h;obtain ⟨v,vs',rfl,_,h2⟩:=h;simpa using RCs.drop k h2
theorem RCs.take {M:Mem}:∀ {cs:List D} {vs:List Value} (k:Nat),RCs M cs vs->RCs M (cs.take k) (vs.take k)
 | cs,vs,0,h=>by simp [RCs]
 | [],vs,k+1,h=>by simp only [RCs] at h;subst h;simp [RCs]
 | c::cs,vs,k+1,h=>by
  simp only [RCs] at h;obtain ⟨v,vs',rfl,h1,h2⟩:=h;simp only [List.take_succ_cons,RCs];exact ⟨v,vs'.take k,rfl,h1,RCs.take k h2⟩
theorem Ayn {M:Mem} {G:FT}:∀ {cs:List D} {vs:List Value},RCs M cs vs->All2 (VC M G) cs vs
 | [],vs,h=>by simp only [RCs] at h;subst h;exact .nil
 | c::cs,vs,h=>by
  simp only [RCs] at h;obtain ⟨v,vs',rfl,h1,h2⟩:=h;exact .cons ⟨h1.one,.inl (Ati h1)⟩ (Ayn h2)
theorem Ali {M:Mem} {G:FT} {b:Bool} {cs:List D} {vs:List Value} (h:All2 (VC M G) cs vs) {d:D} (hd:ofCells b cs=some d):VOK M G d (if b then .agg vs.toArray else vs.getD 0 undef)/\(b=false->vs.length=1):=by
 unfold ofCells at hd
 split at hd
 ·rename_i hb;simp only [zJ] at hd;subst hd;subst hb;exact ⟨⟨vs,rfl,h⟩,by simp⟩
 ·rename_i hb;cases h with
  | nil=>cases hd
  | cons p q=>cases q with
   | nil=>
    simp only [zJ] at hd;subst hd;simp only [hb];exact ⟨Bdw p,fun _=>rfl⟩
   | cons=>cases hd
theorem At.heap (hm:Aar M w) {g b:Nat} {vs:List Value} (h:At M g b vs):∀ j u,vs[j]? = some u->w.cell? ⟨g,b+j,none⟩=some u:=by
 obtain ⟨cs,e,fr,h1,h2⟩:=h;intro j u hu;rw [cell_of_row w g (b+j) cs e fr (hm g _ h1)];exact h2 j u hu
theorem Ar4 {M:Mem} {G:FT} {ec:List T} (h:T.wfC M ec):∀ c∈ec,Ac8 M G c:=fun c hc=>Aga ((T.wfC_iff M ec).1 h c hc)
theorem Bb3 {E:Env} (h:Inv n R M F G H a w) {t:Nat} {x d:D} {v:Value} (hx:VOK M G x v) (hd:loadD E F t x=some d) :
  ∃ u,(Instr.loadAt t v).run E.P w=.ok u w/\VOK M G d u:=by
 unfold loadD at hd;cases hu:E.P.underlying t with
 | none=>simp [hu] at hd
 | some td=>
 simp only [hu,Option.isNone_some,Bool.false_eq_true,if_false] at hd;cases hp:ptrOf F x with
 | none=>simp [hp] at hd
 | some p=>
  have hP:=Alk h hx hp;simp only [hp] at hd;cases p with
  | imm cs=>
   simp only at hd
   split at hd
   ·rename_i hl;have hP':RI M (.ref cs) v:=hP;simp only [RI] at hP';obtain ⟨g,b,vs,rfl,hA,hR⟩:=hP';have hlv:=hR.length;obtain ⟨k1,k2⟩:=Ali (G:=G) (Ayn (hR.take (sizeT E.P t))) hd;have hlen:(vs.take (sizeT E.P t)).length=sizeT E.P t:=by rw [List.length_take];omega
    refine ⟨_,?_,k1⟩;simp only [Instr.loadAt,Instr.sureAddr,Sem.run_bind,Sem.run_pure,Result.andThen_ok];refine Agy hu ?_ hlen (fun hb=>by rw [← hlen];exact k2 hb);have:=(hA.part 0 (sizeT E.P t)).heap h.mem;simpa using this
   ·cases hd
  | loc s ps i o=>
   obtain ⟨y,hy,hn,hpl⟩:=hP;simp only [h.getAt,hy,Option.map_some] at hd;cases he:y.erase.elem i with
   | none=>simp [he] at hd
   | some ec=>
    simp only [he] at hd
    split at hd
    ·rename_i hl;obtain ⟨ts,he1,he2⟩:=Aly (h.node_tidy hy) hpl he;have hw:=Aks (h.node_wf hy hn) he1;have htd:=T.tidy_elem (h.node_tidy hy) he1;obtain ⟨g,b,L,e,rfl,hb,hc⟩:=Aw1 hpl he1;have hlt:ec.length=ts.length:=by rw [← he2];simp
     have hV:All2 (VC M G) (viewCells s ps i o (((ts.drop o).take (sizeT E.P t)).map T.erase)) (((ts.drop o).take (sizeT E.P t)).map T.val):=by
      refine Aj4 hy he1 _ o (fun j c hj=>?_) (fun c hm=>?_)
      ·have hjs:j<sizeT E.P t:=by
        by_cases hjs:j<sizeT E.P t
        ·exact hjs
        ·rw [List.getElem?_take,if_neg hjs] at hj;cases hj
       rw [List.getElem?_take,if_pos hjs,List.getElem?_drop] at hj;exact hj
      ·have hm':=List.mem_of_mem_drop (List.mem_of_mem_take hm);exact ⟨(T.tidyC_iff ts).1 htd c hm',Ar4 hw c hm'⟩
     rw [List.map_take,List.map_drop,he2] at hV;obtain ⟨k1,k2⟩:=Ali hV hd;refine ⟨_,?_,k1⟩;simp only [Instr.loadAt,Instr.sureAddr,Sem.run_bind,Sem.run_pure,Result.andThen_ok];have hlen:(((ts.drop o).take (sizeT E.P t)).map T.val).length=sizeT E.P t:=by
      rw [List.length_map,List.length_take,List.length_drop];omega
     refine Agy hu (fun j u hj=>?_) hlen (fun hb=>by rw [← hlen];exact k2 hb);have hjs:j<sizeT E.P t:=by rw [← hlen];exact (List.getElem?_eq_some_iff.1 hj).1
     have hblk:=(h.block hy hb).1;rw [cell_of_row w g (b+j) L e (0,0) hblk,hc j (by omega),T.vals_eq,List.getElem?_map];rw [List.getElem?_map,List.getElem?_take,if_pos hjs,List.getElem?_drop] at hj;exact hj
    ·cases hd
end
end Go.Own
namespace Go.Own
open D
section
variable {n:Nat} {R:Nat->Value} {M:Mem} {F F':Fr} {G:FT} {H:Blks} {a:Act} {w:World}
theorem Ao7 {P:Program} {t j:Nat} {fd:Field} (h:fieldT P t j=some fd):∃ fs,P.underlying t=some (.struct fs)/\fs[j]? = some fd:=by
 unfold fieldT at h
 split at h
 ·rename_i fs he;exact ⟨fs,he,h⟩
 ·cases h
theorem Ad2 {P:Program} {t e:Nat} (h:sliceT P t=some e):P.underlying t=some (.slice e):=by
 unfold sliceT at h
 split at h
 ·rename_i e' he;simp only [zJ] at h;subst h;exact he
 ·cases h
theorem Ao4 {P:Program} {t k e:Nat} (h:arrayT P t=some (k,e)):P.underlying t=some (.array k e):=by
 unfold arrayT at h
 split at h
 ·rename_i k' e' he;simp only [zJ,Prod.mk.injEq] at h;obtain ⟨rfl,rfl⟩:=h;exact he
 ·cases h
theorem Ac2 {P:Program} {t:Nat} (h:0<sizeT P t):∃ i,P.info? t=some i:=by
 unfold sizeT at h;cases hq:P.info? t with
 | none=>simp [hq] at h
 | some i=>exact ⟨i,rfl⟩
theorem Arx {M:Mem} {G:FT} {p:Ptr} {v:Value} (h:Bbi M G p v):∃ g b,v=.pointer (some ⟨g,b,none⟩) /\
  (∀ cs,p=.imm cs->∀ k,RI M (.ref (cs.drop k)) (.pointer (some ⟨g,b+k,none⟩))) /\
  (∀ s ps i o,p=.loc s ps i o->∀ k,L1 M G (.place s ps i (o+k)) (.pointer (some ⟨g,b+k,none⟩))):=by
 cases p with
 | imm cs=>
  have h':RI M (.ref cs) v:=h;simp only [RI] at h';obtain ⟨g,b,vs,rfl,hA,hR⟩:=h';refine ⟨g,b,rfl,fun cs' hc k=>?_,fun _ _ _ _ hc=>by cases hc⟩;cases hc;simp only [RI];refine ⟨g,b+k,vs.drop k,rfl,?_,hR.drop k⟩;have:=hA.part k (vs.drop k).length
  rwa [List.take_length] at this
 | loc s ps i o=>
  obtain ⟨x,hx,hn,hp⟩:=h;rcases hp with ⟨g,cap,e,sp,es,k,rfl,hi,hk,rfl⟩ | ⟨g,e,cs,rfl,rfl,rfl⟩
  ·refine ⟨g,i*k+o,rfl,fun _ hc=>(by cases hc),fun s' ps' i' o' hc j=>?_⟩;cases hc;exact ⟨_,hx,hn,.inl ⟨g,cap,e,sp,es,k,rfl,hi,hk,by rw [Nat.add_assoc]⟩⟩
  ·refine ⟨g,o,rfl,fun _ hc=>(by cases hc),fun s' ps' i' o' hc j=>?_⟩;cases hc;exact ⟨_,hx,hn,.inr ⟨g,e,cs,rfl,rfl,rfl⟩⟩
theorem Apz {E:Env} (h:Inv n R M F G H a w) {t j:Nat} {fd:Field} (hf:fieldT E.P t j=some fd) (hs:0<sizeT E.P fd.type) {x:D} {v:Value} (hx:VOK M G x v) {p:Ptr} (hp:ptrOf F x=some p) :
  ∃ u,(Instr.fieldAt t v j).run E.P w=.ok u w/\VOK M G (match p with | .imm cs=>.ref (cs.drop fd.offset) | .loc s ps i c=>.place s ps i (c+fd.offset)) u:=by
 obtain ⟨g,b,rfl,k1,k2⟩:=Arx (Alk h hx hp);obtain ⟨fs,e1,e2⟩:=Ao7 hf;obtain ⟨i,hi⟩:=Ac2 hs;refine ⟨.pointer (some ⟨g,b+fd.offset,none⟩),?_,?_⟩
 ·simp only [Instr.fieldAt,Sem.run_bind,run_underlying e1 w,Result.andThen_ok,e2,Instr.sureAddr,Sem.run_pure,fieldPlace,Acb hi w];have:¬ sizeT E.P fd.type=0:=by omega
  simp [this,Addr.add_plain]
 ·cases p with
  | imm cs=>exact Abf (d:=.ref _) (k1 cs rfl _)
  | loc s ps i o=>exact Abf (d:=.place _ _ _ _) (k2 s ps i o rfl _)
theorem Af8 {d:D} {i:Nat} (h:asNat d=some i):∃ k m,d=.lit (.int k m)/\0<=m/\m.toNat=i:=by
 unfold asNat at h;cases hd:asInt d with
 | none=>simp [hd] at h
 | some m=>
  simp only [hd] at h
  split at h
  ·rename_i hm;simp only [zJ] at h;unfold asInt at hd
   split at hd
   ·rename_i k m';simp only [zJ] at hd;subst hd;exact ⟨k,_,rfl,hm,h⟩
   ·cases hd
  ·cases h
theorem Abb {M:Mem} {G:FT} {x v:Value} (h:VOK M G (.lit x) v):v=x:=by
 simp only [VOK,LOK,L1,RI] at h;exact h.1
theorem Ac1 {M:Mem} {G:FT} {v:Value} (h:v.oneCell'=true):VOK M G (.lit v) v:=by
 simp only [VOK,LOK,L1,RI];exact ⟨trivial,h⟩
theorem Acw {P:Program} {t e:Nat} (ht:P.underlying t=some (.slice e)) {i:TypeInfo} (hi:P.info? e=some i) {g b c l:Nat} {k:IntKind} {m:Int} (h0:0<=m) (h1:m<l) (w:World) :
  (Instr.indexAt t (.slice (some ⟨g,b,none⟩) l c) (.int k m)).run P w=.ok (.pointer (some ⟨g,b+m.toNat*sizeT P e,none⟩)) w:=by
 simp [Instr.indexAt,asIntOf,run_underlying ht,h0,h1,Acb hi,Addr.add_plain]
theorem Ao2 {P:Program} {t e l:Nat} (ht:P.underlying t=some (.array l e)) {i:TypeInfo} (hi:P.info? e=some i) {g b:Nat} {k:IntKind} {m:Int} (h0:0<=m) (h1:m<l) (w:World) :
  (Instr.indexAt t (.pointer (some ⟨g,b,none⟩)) (.int k m)).run P w=.ok (.pointer (some ⟨g,b+m.toNat*sizeT P e,none⟩)) w:=by
 simp [Instr.indexAt,asIntOf,run_underlying ht,h0,h1,Acb hi,Addr.add_plain,Instr.sureAddr]
theorem Ani {M:Mem} {es:List (List D)} {v:Value} (h:RI M (.sl es) v) {i:Nat} {c:List D} (hc:es[i]? = some c) :
  ∃ g b cap,v=.slice (some ⟨g,b,none⟩) es.length cap/\RI M (.ref c) (.pointer (some ⟨g,b+i*c.length,none⟩)):=by
 simp only [RI] at h;obtain ⟨A,l,cap,rfl,rfl,h3,h4,h5⟩:=h;rcases h5 with h5 | ⟨g,b,k,vs,rfl,hA,hk0,hk,hR⟩
 ·subst h5;simp at hc
 ·refine ⟨g,b,cap,rfl,?_⟩;have hck:c.length=k:=hk c (List.mem_of_getElem? hc);have h1:=hR.drop hk i;obtain ⟨hlt,he⟩:=List.getElem?_eq_some_iff.1 hc;have hdrop:es.drop i=c::es.drop (i+1):=by rw [← he];exact List.drop_eq_getElem_cons hlt
  rw [hdrop] at h1;simp only [REs] at h1;obtain ⟨v1,v2,e1,e2,_⟩:=h1;simp only [RI];refine ⟨g,b+i*c.length,v1,rfl,?_,e2⟩;have:=hA.part (i*k) v1.length;rw [e1,List.take_left] at this;rw [hck];exact this
theorem Axm {E:Env} (h:Inv n R M F G H a w) {t:Nat} {x ix d:D} {v u:Value} (hx:VOK M G x v) (hi:VOK M G ix u) (hd:indexAddrD E F t x ix=some d) :
  ∃ z,(Instr.indexAt t v u).run E.P w=.ok z w/\VOK M G d z:=by
 unfold indexAddrD at hd;cases hn:asNat ix with
 | none=>simp [hn] at hd
 | some i=>
  obtain ⟨ik,im,rfl,hm0,rfl⟩:=Af8 hn;have:=Abb hi;subst this;simp only [hn] at hd;cases hsl:sliceT E.P t with
  | some e=>
   have hut:=Ad2 hsl;simp only [hsl] at hd;cases x with
   | sl es=>
    simp only at hd;cases hc:es[im.toNat]? with
    | none=>simp [hc] at hd
    | some c=>
     simp only [hc] at hd
     split at hd
     ·rename_i hcl;simp only [zJ] at hd;subst hd;obtain ⟨g,b,cap,rfl,hR⟩:=Ani hx hc;have hlt:=(List.getElem?_eq_some_iff.1 hc).1;obtain ⟨inf,hinf⟩:∃ i,E.P.info? e=some i:=by
       simp only [VOK,LOK,L1,RI] at hx;obtain ⟨A,l,cap,_,_,_,_,h5⟩:=hx;rcases h5 with h5 | ⟨_,_,k,_,_,_,hk0,hk,_⟩
       ·subst h5;simp at hc
       ·exact Ac2 (by rw [← hcl,hk c (List.mem_of_getElem? hc)];exact hk0)
      refine ⟨_,Acw hut hinf hm0 (by omega) w,?_⟩;rw [← hcl];exact Abf (d:=.ref _) hR
     ·cases hd
   | alias s ps=>
    obtain ⟨y,hy,hny,rfl⟩:=hx;have hwy:=h.node_wf hy hny;have hty:=h.node_tidy hy;simp only [h.getAt,hy,Option.map_some] at hd
    split at hd
    ·rename_i es he;simp only [zJ] at he;rcases Ae5 hty he with ⟨g,cap,el,sp,ts,rfl,rfl⟩ | ⟨rfl,rfl⟩
     ·simp only [List.getElem?_map] at hd;cases hc:ts[im.toNat]? with
      | none=>simp [hc] at hd
      | some c=>
       simp only [hc,Option.map_some,List.length_map] at hd
       split at hd
       ·rename_i hcl;simp only [zJ] at hd;subst hd;obtain ⟨⟨k,hk0,hk,_⟩,_⟩:=hwy;have hck:=hk c (List.mem_of_getElem? hc);have hlt:=(List.getElem?_eq_some_iff.1 hc).1;obtain ⟨inf,hinf⟩:=Ac2 (P:=E.P) (t:=e) (by omega);refine ⟨_,Acw hut hinf hm0 (by omega) w,?_⟩;refine Abf (d:=.place _ _ _ _) ⟨_,hy,hny,.inl ⟨g,cap,el,sp,ts,k,rfl,by omega,hk,?_⟩⟩;rw [← hcl,hck];simp
       ·cases hd
     ·simp at hd
    ·rename_i es he;simp only [zJ] at he;have e1:=Agu he;rw [e1] at hwy;have hr:=Ad0 hwy (by simp);cases hc:es[im.toNat]? with
     | none=>simp [hc] at hd
     | some c=>
      simp only [hc] at hd
      split at hd
      ·rename_i hcl;simp only [zJ] at hd;subst hd;obtain ⟨g,b,cap,hv,hR⟩:=Ani hr hc;have hlt:=(List.getElem?_eq_some_iff.1 hc).1;obtain ⟨inf,hinf⟩:∃ i,E.P.info? e=some i:=by
        simp only [RI] at hr;obtain ⟨A,l,cap,_,_,_,_,h5⟩:=hr;rcases h5 with h5 | ⟨_,_,k,_,_,_,hk0,hk,_⟩
        ·subst h5;simp at hc
        ·exact Ac2 (by rw [← hcl,hk c (List.mem_of_getElem? hc)];exact hk0)
       rw [hv];refine ⟨_,Acw hut hinf hm0 (by omega) w,?_⟩;rw [← hcl];exact Abf (d:=.ref _) hR
      ·cases hd
    ·cases hd
   | sub s ps off len=>
    obtain ⟨y,hy,hny,hS⟩:=hx;have hwy:=h.node_wf hy hny;have hty:=h.node_tidy hy;simp only [h.getAt,hy,Option.map_some] at hd
    split at hd
    ·rename_i hil
     split at hd
     ·rename_i es he;simp only [zJ] at he;rcases Ae5 hty he with ⟨g,cap,el,sp,ts,rfl,rfl⟩ | ⟨rfl,rfl⟩
      ·simp only [List.getElem?_map] at hd;cases hc:ts[off+im.toNat]? with
       | none=>simp [hc] at hd
       | some c=>
        simp only [hc,Option.map_some,List.length_map] at hd
        split at hd
        ·rename_i hcl;simp only [zJ] at hd;subst hd;obtain ⟨⟨k,hk0,hk,_⟩,_⟩:=hwy;have hck:=hk c (List.mem_of_getElem? hc);have hlt:=(List.getElem?_eq_some_iff.1 hc).1;obtain ⟨inf,hinf⟩:=Ac2 (P:=E.P) (t:=e) (by omega);obtain ⟨A,m,c',k',es',A',h1,h2,h3,h4,h5,h6,rfl,h8⟩:=hS;simp only [T.val,Value.slice.injEq] at h1;obtain ⟨rfl,rfl,rfl⟩:=h1;have hk':k'=k:=by
          rcases h2 with h2 | h2
          ·simp only [T.erase,D.own.injEq] at h2;subst h2;have:=h4 (c.map T.erase) (by rw [T.eraseE_eq];exact List.mem_map.2 ⟨c,List.mem_of_getElem? hc,rfl⟩);simp at this;omega
          ·simp [T.erase] at h2
         subst hk';rcases h8 with h8 | h8
         ·subst h8;simp only [Option.map_some,Addr.add_plain,Nat.zero_add];refine ⟨_,Acw hut hinf hm0 (by omega) w,?_⟩;refine Abf (d:=.place _ _ _ _) ⟨_,hy,hny,.inl ⟨g,cap,el,sp,ts,k',rfl,by omega,hk,?_⟩⟩;rw [← hcl.1,hck,Nat.add_mul];simp
         ·omega
        ·cases hd
      ·simp at hd
     ·rename_i es he;simp only [zJ] at he;have e1:=Agu he;rw [e1] at hwy hS;have hr:=Ad0 hwy (by simp);have hr':=Am6 hr hS;cases hc:es[off+im.toNat]? with
      | none=>simp [hc] at hd
      | some c=>
       simp only [hc] at hd
       split at hd
       ·rename_i hcl;simp only [zJ] at hd;subst hd;have hc':((es.drop off).take len)[im.toNat]? = some c:=by
         rw [List.getElem?_take,if_pos hil,List.getElem?_drop];exact hc
        obtain ⟨g,b,cap,hv,hR⟩:=Ani hr' hc';have hlt:=(List.getElem?_eq_some_iff.1 hc').1;obtain ⟨inf,hinf⟩:∃ i,E.P.info? e=some i:=by
         simp only [RI] at hr;obtain ⟨A,l,cap,_,_,_,_,h5⟩:=hr;rcases h5 with h5 | ⟨_,_,k,_,_,_,hk0,hk,_⟩
         ·subst h5;simp at hc
         ·exact Ac2 (by rw [← hcl.1,hk c (List.mem_of_getElem? hc)];exact hk0)
        rw [hv];refine ⟨_,Acw hut hinf hm0 (by omega) w,?_⟩;rw [← hcl.1];exact Abf (d:=.ref _) hR
       ·cases hd
     ·cases hd
    ·cases hd
   | _=>simp at hd
  | none=>
   simp only [hsl] at hd;cases har:arrayT E.P t with
   | none=>simp [har] at hd
   | some q=>
    obtain ⟨l,e⟩:=q;have hut:=Ao4 har;simp only [har] at hd
    split at hd
    ·rename_i hil
     split at hd
     ·cases hd
     rename_i hsz;obtain ⟨inf,hinf⟩:=Ac2 (P:=E.P) (t:=e) (by omega);cases hp:ptrOf F x with
     | none=>simp [hp] at hd
     | some p=>
      obtain ⟨g,b,rfl,k1,k2⟩:=Arx (Alk h hx hp);refine ⟨_,Ao2 hut hinf hm0 (by omega) w,?_⟩;cases p with
      | imm cs=>simp only [hp,zJ] at hd;subst hd;exact Abf (d:=.ref _) (k1 cs rfl _)
      | loc s ps i o=>simp only [hp,zJ] at hd;subst hd;exact Abf (d:=.place _ _ _ _) (k2 s ps i o rfl _)
    ·cases hd
end
end Go.Own
