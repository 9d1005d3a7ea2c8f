/- An interpreter of function bodies, sound. No conditions. -/
import Derived.Laws.MakeOwn
import Derived.Laws.BytesString
import Derived.Laws.IdiomStrings
import Derived.Test.YtockohmmmlhhfabGreatDoorOwn12
set_option linter.all false
namespace Go.Own
open D
theorem Ad4 (z:Array Value) (hz:0<z.size):∀ m,(madeCells z (m*z.size)).toList=(List.replicate m z.toList).flatten:=by
 intro m;apply List.ext_getElem?;intro j;have hL:(List.replicate m z.toList).flatten.length=m*z.size:=by simp
 have:∀ m j,j<m*z.size->(List.replicate m z.toList).flatten[j]? = z[j % z.size]?:=by
  intro m
  induction m with
  | zero=>intro j hj;omega
  | succ m ih=>
   intro j hj;simp only [List.replicate_succ,List.flatten_cons];by_cases h:j<z.size
   ·rw [List.getElem?_append_left (by simpa using h),Nat.mod_eq_of_lt h];simp
   ·rw [List.getElem?_append_right (by simp;omega)];have h1:j-z.toList.length<m*z.size:=by rw [Nat.succ_mul] at hj;simp;omega
    rw [ih _ h1];have:(j-z.toList.length) % z.size=j % z.size:=by
     simp only [Array.length_toList]
     conv=>rhs;rw [show j=(j-z.size)+z.size by omega]
     rw [Nat.add_mod_right]
    rw [this]
 by_cases hj:j<m*z.size
 ·rw [this m j hj];have h2:j % z.size<z.size:=Nat.mod_lt _ hz;simp only [madeCells,Array.toList_map,List.getElem?_map,Array.toList_range,List.getElem?_range hj,Option.map_some];rw [Array.getElem?_eq_getElem h2,getElem!_pos z _ h2]
 ·rw [List.getElem?_eq_none (by simp [madeCells];omega),List.getElem?_eq_none (by rw [hL];omega)]
section
variable {n:Nat} {R:Nat->Value} {M:Mem} {F F':Fr} {G:FT} {H:Blks} {a:Act} {w:World}
theorem Inv.newOwn {es:List (List T)} (h:Inv n R M F G (T.blocksE es++H) a w) (cap e:Nat) (sp:List Value):Inv n R M F G ((T.own w.heap.size cap e sp es).blocks++H) a (w.alloc (.cells (T.valsE es++sp).toArray e)):=by
 have:=h.alloc (.cells (T.valsE es++sp).toArray e);simpa [T.blocks] using this
theorem Adq (m:Nat) (ts:List T):T.valsE (List.replicate m ts)=(List.replicate m (T.vals ts)).flatten:=by
 rw [T.valsE_eq,List.flatMap_def,List.map_replicate]
theorem Afg (m:Nat) {ts:List T} (h:T.blocksC ts=[]):T.blocksE (List.replicate m ts)=[]:=by
 induction m with
 | zero=>simp [T.blocksE]
 | succ m ih=>simp [List.replicate_succ,T.blocksE,h,ih]
theorem Alb {B:List Nat} {es:List (List T)} {F1:Fr} {G1:FT} (h:Inv n R M F1 G1 (T.blocksE es++[]) a w) (cap e:Nat) (sp:List Value) (ht:T.tidyE es) (hw:T.wf M (.own w.heap.size cap e sp es)) (dst:Option Nat) (hd:∀ d,dst=some d->d<n)
  {w0:World} (hev:Evo M B w0 M (keys (Aa0 G1++(T.blocksE es++[]))) w) :
  Post n R M B w0 (fin F1 dst (.own (es.map (·.map T.erase)))) (a.put dst (.slice (some ⟨w.heap.size,0,none⟩) es.length cap)) (w.alloc (.cells (T.valsE es++sp).toArray e)):=by
 have h1:=h.newOwn cap e sp;have:=Ace (M:=M) (w:=w0) (B:=B) h1 (show (T.own w.heap.size cap e sp es).tidy from ht) (Abj (show Giv M (.own w.heap.size cap e sp es) from hw)) dst hd (by
  refine (hev.alloc _).weaken fun g hg=>?_;simp only [T.blocks,keys,List.append_nil,List.map_append,List.map_cons,List.mem_append,List.mem_cons] at hg ⊢;rcases hg with hg | hg | hg
  ·exact .inr (.inl hg)
  ·exact .inl hg
  ·exact .inr (.inr hg))
 simpa only [T.erase,T.eraseE_eq,T.val] using this
theorem Auv {P:Program} (h:Inv n R M F G [] a w) {t e m k:Nat} (ht:sliceT P t=some e) {z:D} (hz:zeroT P e=some z) {dl dc:D} {l c:Value} (hl:VOK M G dl l) (hc:VOK M G dc c) (il:asNat dl=some k) (ic:asNat dc=some m)
  (h1:k=m) (h2:m*bytesT P e<=281474976710656) (h3:m<=9223372036854775807) (h4:z.cells.length=sizeT P e) (h5:0<sizeT P e) (dst:Option Nat) (hd:∀ d,dst=some d->d<n) :
  ∃ v w',(Instr.makeSlice t l c).run P w=.ok v w'/\Post n R M (keys (Aa0 G)) w (fin F dst (.own (List.replicate k z.cells))) (a.put dst v) w':=by
 obtain ⟨i,v,u,i1,i2,rfl,rfl,i5,i6,i7⟩:=Ag1 (M:=M) hz;obtain ⟨c1,c2,c3,c4,c5⟩:=Aci i6 i5;obtain ⟨kl,ml,rfl,l1,l2⟩:=Af8 il;obtain ⟨kc,mc,rfl,m1,m2⟩:=Af8 ic;have el:=Abb hl;have ec:=Abb hc;subst el ec;have hul:u.cells.length=sizeT P e:=by rw [← h4,← c1];simp
 have hus:u.val.cells.size=sizeT P e:=by have:=congrArg List.length c2;simp at this;omega
 have hsz:i.size=sizeT P e:=by simp [sizeT,i1]
 have hby:i.bytes=bytesT P e:=by simp [bytesT,i1]
 have hr:=run_make (P:=P) w t e i u.val (Ad2 ht) i1 i2 kl kc ml mc l1 (by omega) (by
  rw [hby];have:((m*bytesT P e:Nat):Int)<=281474976710656:=by omega
  rw [Int.natCast_mul] at this;have e1:mc=(m:Int):=by omega
  rw [e1,Int.mul_comm];exact this) (by omega)
 refine ⟨_,_,hr,?_⟩;have hsp:∀ j,(List.replicate j u.cells).length=j:=by simp
 have hcells:(madeCells u.val.cells (mc.toNat*i.size))=(T.valsE (List.replicate k u.cells)++T.valsE (List.replicate (m-k) u.cells)).toArray:=by
  rw [← T.valsE_append,List.replicate_append_replicate,show k+(m-k)=m by omega,Adq,c2,m2,hsz,← hus,← Ad4 _ (by omega)]
 rw [hcells];have hw:T.wf M (.own w.heap.size m e (T.valsE (List.replicate (m-k) u.cells)) (List.replicate k u.cells)):=by
  simp only [T.wf];refine ⟨⟨sizeT P e,h5,?_,?_⟩,by simp;omega,by simpa [maxLen] using h3,?_,?_⟩
  ·intro x hx;rw [List.eq_of_mem_replicate hx];exact hul
  ·rw [Aat (k:=sizeT P e) (by intro x hx;rw [List.eq_of_mem_replicate hx];exact hul)];simp only [hsp,← Nat.add_mul];congr 1;omega
  ·refine Adf (M:=M) ?_;rw [T.wfE_iff];intro x hx;rw [List.eq_of_mem_replicate hx];exact c4
  ·rw [T.wfE_iff];intro x hx;rw [List.eq_of_mem_replicate hx];exact c4
 have hbl:T.blocksE (List.replicate k u.cells)=[]:=Afg k (by rw [c5,i7]);have:=Alb (B:=keys (Aa0 G)) (w0:=w) (es:=List.replicate k u.cells) (by rw [hbl];exact h) m e (T.valsE (List.replicate (m-k) u.cells)) (by rw [T.tidyE_iff];intro x hx;rw [List.eq_of_mem_replicate hx];exact c3) hw dst hd (by rw [hbl];simpa using Evo.refl M (keys (Aa0 G)) w);simp only [List.map_replicate,c1,List.length_replicate] at this;rw [l2,m2];exact this
theorem Aok {M:Mem} {k:Nat}:∀ (ps:List (Nat×T)) {es:List (List T)} {ds:List (List D)},(∀ x∈ps,x.2.tidy/\Giv M x.2)->T.tidyE es->T.wfE M es->(∀ e∈es,e.length=k)->setElems k (es.map (·.map T.erase)) (ps.map fun x=>(x.1,x.2.erase))=some ds ->
  ∃ es',es'.map (·.map T.erase)=ds/\Instr.fill (fun i=>some (i*k,k)) (T.valsE es).toArray (ps.map fun x=>(x.1,x.2.val))=some (T.valsE es').toArray/\T.tidyE es'/\T.wfE M es'/\(∀ e∈es',e.length=k)/\es'.length=es.length /\
   ∃ rest,(T.blocksE es'++rest).Perm (T.blocksE es++T.blocksC (ps.map Prod.snd))
 | [],es,ds,_,ht,hw,hk,h=>by
  simp only [List.map_nil,setElems,zJ] at h;subst h;exact ⟨es,rfl,rfl,ht,hw,hk,rfl,[],by simp [T.blocksC]⟩
 | (i,t)::ps,es,ds,hp,ht,hw,hk,h=>by
  simp only [List.map_cons,setElems] at h
  split at h
  case isFalse=>cases h
  rename_i hc;obtain ⟨hc1,hc2⟩:=hc;simp only [List.length_map] at hc2;obtain ⟨g1,g2⟩:=hp (i,t) (by simp);obtain ⟨c1,c2,c3,c4,c5⟩:=Aci g2 g1;have hlen:t.cells.length=k:=by rw [← hc1,← c1];simp
  have hei:es[i]? = some es[i]:=List.getElem?_eq_getElem hc2;rw [← c1,← List.map_set (f:=List.map T.erase)] at h;have hk':∀ e∈es.set i t.cells,e.length=k:=by
   intro x hx;rcases List.mem_or_eq_of_mem_set hx with hx | rfl
   ·exact hk x hx
   ·exact hlen
  have ht':T.tidyE (es.set i t.cells):=by
   rw [T.tidyE_iff] at ht ⊢;intro x hx;rcases List.mem_or_eq_of_mem_set hx with hx | rfl
   ·exact ht x hx
   ·exact c3
  have hw':T.wfE M (es.set i t.cells):=by
   rw [T.wfE_iff] at hw ⊢;intro x hx;rcases List.mem_or_eq_of_mem_set hx with hx | rfl
   ·exact hw x hx
   ·exact c4
  obtain ⟨es',b1,b2,b3,b4,b5,b6,rest,b7⟩:=Aok ps (fun x hx=>hp x (by simp [hx])) ht' hw' hk' h;obtain ⟨r,hr1,hr2⟩:=T.blocksE_set hei;refine ⟨es',b1,?_,b3,b4,b5,by rw [b6];simp,rest++T.blocksC es[i],?_⟩
  ·have hb:i*k+k<=(T.valsE es).length:=by
    rw [Aat hk,← Nat.succ_mul];exact Nat.mul_le_mul_right _ hc2
   rw [List.map_cons,Asi (place:=fun i=>some (i*k,k)) rfl (v:=t.val) (by have:=congrArg List.length c2;simp at this;omega) (by simpa using hb),← b2];congr 1;rw [Ah1 hk hei hlen,c2]
  ·rw [← List.append_assoc];refine (b7.append_right _).trans ?_;simp only [List.map_cons,T.blocksC,c5];have q1:(T.blocksE (es.set i t.cells)).Perm (t.blocks++r):=by rw [← c5];exact (hr2 _).symm
   refine ((q1.append_right _).append_right _).trans ?_;refine List.Perm.trans ?_ (hr1.append_right _);generalize T.blocksC (ps.map Prod.snd)=A;generalize T.blocksC es[i]=B;simp only [List.append_assoc];refine List.Perm.trans ?_ (List.perm_append_comm_assoc r B (t.blocks++A) |>.symm).symm;refine (List.perm_append_comm_assoc _ _ _).trans ?_;refine List.Perm.append_left r ?_;refine List.Perm.trans ?_ (List.perm_append_comm_assoc _ _ _);exact List.Perm.append_left _ List.perm_append_comm
theorem Atc {E:Env} (h:Inv n R M F G [] a w) {t e m:Nat} (ht:sliceT E.P t=some e) {parts:Array (Nat×Operand)} (hx:∀ p∈parts.toList,Fits n p.2) {z:D} (hz:zeroT E.P e=some z) {ds:List (Nat×D)} {F1:Fr} (htp:takeParts E F parts.toList=some (ds,F1))
  (h1:m*sizeT E.P e<=16777216) (h2:z.cells.length=sizeT E.P e) (h3:0<sizeT E.P e) {es:List (List D)} (hs:setElems (sizeT E.P e) (List.replicate m z.cells) ds=some es) (dst:Option Nat) (hd:∀ d,dst=some d->d<n) :
  ∃ v w',(Instr.buildSlice t m (parts.map fun x=>(x.1,a.eval x.2))).run E.P w=.ok v w'/\Post n R M (keys (Aa0 G)) w (fin F1 dst (.own es)) (a.put dst v) w':=by
 obtain ⟨i,v,u,i1,i2,rfl,rfl,i5,i6,i7⟩:=Ag1 (M:=M) hz;obtain ⟨c1,c2,c3,c4,c5⟩:=Aci i6 i5;obtain ⟨ts,G1,b1,b2,b3,b4,b5⟩:=Aj2 _ h hx htp;have hul:u.cells.length=sizeT E.P e:=by rw [← h2,← c1];simp
 have hus:u.val.cells.size=sizeT E.P e:=by have:=congrArg List.length c2;simp at this;omega
 rw [← c1,← List.map_replicate (f:=List.map T.erase),← b1] at hs;have tr:T.tidyE (List.replicate m u.cells):=by rw [T.tidyE_iff];intro x hx;rw [List.eq_of_mem_replicate hx];exact c3
 have wr:T.wfE M (List.replicate m u.cells):=by rw [T.wfE_iff];intro x hx;rw [List.eq_of_mem_replicate hx];exact c4
 obtain ⟨es',e1,e2,e3,e4,e5,e6,rest,e7⟩:=Aok ts b3 tr wr (by intro x hx;rw [List.eq_of_mem_replicate hx];exact hul) hs;have hbl:T.blocksE (List.replicate m u.cells)=[]:=Afg m (by rw [c5,i7]);rw [hbl,List.nil_append] at e7;simp only [List.length_replicate] at e6;have hi:Inv n R M F1 G1 (T.blocksE es'++[]) a w:=b4.less (rest:=rest) (by simpa using e7);have hm63:m<=16777216:=by
  have:m*1<=m*sizeT E.P e:=Nat.mul_le_mul_left _ h3;omega
 have hw:T.wf M (.own w.heap.size m e [] es'):=by
  simp only [T.wf];exact ⟨⟨sizeT E.P e,h3,e5,by simp [e6]⟩,by omega,by simp [maxLen];omega,by simp,e4⟩
 have:=Alb (B:=keys (Aa0 G)) (w0:=w) hi m e [] e3 hw dst hd (Evo.refl' M w fun g hg=>by
  have h1:=Sub.less (A:=Aa0 G1) (B:=T.blocksE es'++[]) (C:=T.blocksC (ts.map Prod.snd)++[]) (rest:=rest) (by simpa using e7) g hg;have h2:=b5 g h1
  simpa [keys] using h2)
 rw [e1,e6] at this;refine ⟨_,_,?_,this⟩;have hmade:(Array.range (m*sizeT E.P e)).map ((if m*sizeT E.P e=0 then #[] else u.val.cells)[· % (if m*sizeT E.P e=0 then #[] else u.val.cells).size]!)=(T.valsE (List.replicate m u.cells)).toArray:=by
  rw [Adq,c2];by_cases h0:m*sizeT E.P e=0
  ·have:m=0:=by rcases Nat.mul_eq_zero.1 h0 with h | h;exact h;omega
   subst this;simp [Array.range_zero']
  ·simp only [h0,if_false];rw [← hus,← Ad4 _ (by omega),Array.toArray_toList];rfl
 have hl:(parts.map fun x=>(x.1,a.eval x.2)).toList=ts.map fun x=>(x.1,x.2.val):=by rw [Array.toList_map,b2]
 have hn:¬ m*sizeT E.P e > 2^24:=by omega
 unfold Instr.buildSlice;simp only [Sem.run_bind,run_underlying (Ad2 ht),Result.andThen_ok,Acb i1,hn,if_false];by_cases h0:m*sizeT E.P e=0
 ·simp only [h0,if_true] at hmade ⊢;simp only [Sem.run_bind,Sem.run_pure,Result.andThen_ok,hmade,hl,e2,newRow,run_newObj];simp only [List.append_nil];rfl
 ·simp only [h0,if_false] at hmade ⊢;simp only [Sem.run_bind,Sem.run_pure,Result.andThen_ok,Aj7 i1 i2,hmade,hl,e2,newRow,run_newObj];simp only [List.append_nil];rfl
end
end Go.Own
namespace Go.Own
open D
theorem At4 {P:Program} {u:Nat} (h:rowT P u=true):(∃ e,P.underlying u=some (.slice e))∨P.underlying u=some .string:=by
 unfold rowT at h
 split at h
 ·rename_i e he;exact .inl ⟨e,he⟩
 ·rename_i he;exact .inr he
 ·cases h
structure Gives (P:Program) (w:World) (k m:Nat) (v:Value) (vs:List Value):Prop where
 len:vs.length=m*k
 lenOf:∀ w',(Builtin.lenOf v).run P w'=.ok m w'
 first:∀ w',w'.heap=w.heap->(Builtin.firstCells k m v).run P w'=.ok vs.toArray w'
section
variable {P:Program} {w:World}
theorem An0 {t u ty e:Nat} {i:TypeInfo} (ht:P.underlying t=some (.slice e)) (hu:rowT P u=true) (hi:P.info? e=some i) {base:Option Addr} {sLen sCap m:Nat} {y:Value} {news:List Value} (hy:Gives P w i.size m y news) (hroom:sLen+m<=sCap) :
  (Builtin.append_ #[t,u] ty #[.slice base sLen sCap,y]).run P w=(do
   if let some a:=base then storeCells (a.add (sLen*i.size)) news
   pure (.slice base (sLen+m) sCap):Sem Value).run P w:=by
 rcases At4 hu with ⟨e',he'⟩ | he'
 ·simp only [Builtin.append_,List.getElem?_toArray,List.getElem?_cons_zero,List.getElem?_cons_succ,Sem.run_bind,run_underlying ht,Result.andThen_ok,sizeOf,typeInfo,hi,Sem.run_pure,run_underlying he',Bool.false_eq_true,if_false,hy.lenOf,hroom,if_true,Bool.not_false,hy.first w rfl];cases base<;>simp [hi,hy.first w rfl]
 ·simp only [Builtin.append_,List.getElem?_toArray,List.getElem?_cons_zero,List.getElem?_cons_succ,Sem.run_bind,run_underlying ht,Result.andThen_ok,sizeOf,typeInfo,hi,Sem.run_pure,run_underlying he',Bool.false_eq_true,if_false,hy.lenOf,hroom,if_true,Bool.not_false,hy.first w rfl];cases base<;>simp [hi,hy.first w rfl]
theorem Amz {t u ty e:Nat} {i:TypeInfo} {z:Value} (ht:P.underlying t=some (.slice e)) (hu:rowT P u=true) (hi:P.info? e=some i) (hz:i.zero=some z) {base:Option Addr} {sLen sCap m:Nat} {y:Value} {news olds:List Value} (hy:Gives P w i.size m y news)
  (hold:∀ w',w'.heap=w.heap->(Builtin.firstCells i.size sLen (.slice base sLen sCap)).run P w'=.ok olds.toArray w') (hgrow:sCap<sLen+m) (h63:((sLen+m:Nat):Int)<=9223372036854775807) (hfit:Builtin.nextslicecap (sLen+m) sCap*i.bytes<=281474976710656) :
  (Builtin.append_ #[t,u] ty #[.slice base sLen sCap,y]).run P w=.ok (.slice (some ⟨w.heap.size,0,none⟩) (sLen+m) (grownCap w (sLen+m) sCap e))
   (w.drew.alloc (.cells (olds.toArray++news.toArray++Builtin.zeroCells z.cells (grownCap w (sLen+m) sCap e-(sLen+m))) e)):=by
 have hn:¬ (sLen+m<=sCap):=by omega
 have h63':¬ (9223372036854775807<((sLen:Int)+(m:Int))):=by omega
 have h48':¬ (281474976710656<Builtin.nextslicecap (sLen+m) sCap*i.bytes):=by omega
 have h1:=hy.first w.drew rfl
 have h2:=hold w.drew rfl;rcases At4 hu with ⟨e',he'⟩ | he'
 ·simp [Builtin.append_,run_underlying ht,run_underlying he',sizeOf,typeInfo,zeroValue,hi,hz,hy.lenOf,hn,h63',h48',Question.forced,h1,h2,newRow,grownCap];exact congrArg (fun A=>w.drew.alloc (Obj.cells A e)) (Array.ext' (by simp))
 ·simp [Builtin.append_,run_underlying ht,run_underlying he',sizeOf,typeInfo,zeroValue,hi,hz,hy.lenOf,hn,h63',h48',Question.forced,h1,h2,newRow,grownCap];exact congrArg (fun A=>w.drew.alloc (Obj.cells A e)) (Array.ext' (by simp))
end
theorem Aff (z:Array Value) (n:Nat):Builtin.zeroCells z n=madeCells z (n*z.size):=rfl
theorem Bbp {M:Mem} {d:D} {v:Value} (h:RI M d v):d.ex1=false:=by
 cases d<;>simp_all [RI,D.ex1]
theorem Atz {M:Mem}:∀ {cs:List D} {vs:List Value},RCs M cs vs->cs.any ex1=false
 | [],_,_=>rfl
 | c::cs,vs,h=>by
  simp only [RCs] at h;obtain ⟨v,vs',_,h1,h2⟩:=h;simp [Bbp h1,Atz h2]
theorem Au0 {M:Mem}:∀ {es:List (List D)} {vs:List Value},REs M es vs->(es.any fun c=>c.any ex1)=false
 | [],_,_=>rfl
 | e::es,vs,h=>by
  simp only [REs] at h;obtain ⟨v1,v2,_,h1,h2⟩:=h;simp only [List.any_cons,Atz h1,Au0 h2,Bool.or_self]
theorem Art {M:Mem} {es:List (List D)} {v:Value} (h:RI M (.sl es) v):(es.any fun c=>c.any ex1)=false:=by
 simp only [RI] at h;obtain ⟨A,n,c,_,_,_,_,h⟩:=h;rcases h with rfl | ⟨g,b,k,vs,_,_,_,_,h⟩
 ·rfl
 ·exact Au0 h
section
variable {n:Nat} {R:Nat->Value} {M:Mem} {F F':Fr} {G:FT} {H:Blks} {a:Act} {w:World}
theorem Ax4 (M:Mem) (s:ByteArray):∃ ts:List (List T),ts.map (·.map T.erase)=bytesD s/\T.valsE ts=s.data.toList.map (fun c=>Value.int .u8 c.toNat)/\T.tidyE ts/\T.wfE M ts/\T.blocksE ts=[]:=by
 unfold bytesD;generalize s.data.toList=l
 induction l with
 | nil=>exact ⟨[],rfl,rfl,trivial,trivial,by simp [T.blocksE]⟩
 | cons c l ih=>
  obtain ⟨ts,b1,b2,b3,b4,b5⟩:=ih;refine ⟨[.leaf (.lit (.int .u8 c.toNat)) (.int .u8 c.toNat)]::ts,by simp [b1,T.erase],by simp [T.valsE,T.vals,T.val,b2],⟨⟨by simp [T.tidy],trivial⟩,b3⟩,⟨⟨.inr (by simp [RI,Value.oneCell']),trivial⟩,b4⟩,by simp [T.blocksE,T.blocksC,T.blocks,b5]⟩
theorem Avk {P:Program} {v:Value} {es:List (List D)} (h:Ax1 M w v es) {k:Nat} (hk:(es.all fun c=>c.length == k)=true):∃ tss:List (List T),tss.map (·.map T.erase)=es/\T.tidyE tss/\T.wfE M tss/\Gives P w k es.length v (T.valsE tss):=by
 obtain ⟨A,c,tss,rfl,h2,rfl,h4,h5,h6⟩:=h;have hkt:∀ e∈tss,e.length=k:=by
  intro e he;have:=List.all_eq_true.1 hk (e.map T.erase) (List.mem_map.2 ⟨e,he,rfl⟩);simpa using this
 have hl:=Aat hkt;refine ⟨tss,rfl,h4,h5,by rw [hl];simp,fun w'=>by simp [Builtin.lenOf],fun w' hw'=>?_⟩;rcases h6 with h6 | ⟨g,b,k',rfl,_,_,hc⟩
 ·have:tss=[]:=by simpa using h6
  subst this;cases A with
  | none=>simp [Builtin.firstCells,T.valsE]
  | some a=>simp [Builtin.firstCells,T.valsE,loadCells,loadCellsFrom]
 ·refine run_firstCells_some w' k _ ⟨g,b,none⟩ _ c _ (by rw [hl];simp) fun j u hu=>?_;rw [Addr.add_plain];have:=hc j u hu;unfold World.cell? at this ⊢;rw [hw'];exact this
theorem Avx {E:Env} (h:Inv n R M F G H a w) {y:Operand} (hy:Fits n y) {new:List (List D)} (hn:newElems E F y=some (new,F')) {k:Nat} (hk:(new.all fun c=>c.length == k)=true) (hk1:0<k) :
  ∃ tn G',tn.map (·.map T.erase)=new/\T.tidyE tn/\T.wfE M tn/\Gives E.P w k new.length (a.eval y) (T.valsE tn)/\Inv n R M F' G' (T.blocksE tn++H) a w/\Sub (Aa0 G'++(T.blocksE tn++H)) (Aa0 G++H):=by
 have plain:∀ (d:D) (es:List (List D)),VOK M G d (a.eval y)->elemsOf F d=some es->(es.any fun c=>c.any ex1)=false->(es.all fun c=>c.length == k)=true ->
   ∃ tn G',tn.map (·.map T.erase)=es/\T.tidyE tn/\T.wfE M tn/\Gives E.P w k es.length (a.eval y) (T.valsE tn)/\Inv n R M F G' (T.blocksE tn++H) a w/\Sub (Aa0 G'++(T.blocksE tn++H)) (Aa0 G++H):=fun d es h1 h2 h3 h4=>by
  obtain ⟨tss,b1,b2,b3,b4⟩:=Avk (P:=E.P) (Aoy h h1 h2) h4;have hb:T.blocksE tss=[]:=Agi b2 b3 (by rw [b1];exact h3);exact ⟨tss,G,b1,b2,b3,b4,by rw [hb];exact h,by rw [hb];exact Sub.refl _⟩
 simp only [newElems] at hn;cases ho:opd E F y with
 | none=>simp [ho] at hn
 | some d=>
  have hv:=h.opd hy ho;simp only [ho] at hn;cases d with
  | lit x=>
   cases x with
   | string s=>
    simp only [zJ,Prod.mk.injEq] at hn;obtain ⟨rfl,rfl⟩:=hn;have e:=Abb hv;obtain ⟨ts,b1,b2,b3,b4,b5⟩:=Ax4 M s;have hsl:(bytesD s).length=s.size:=by simp [bytesD]
    have hk':k=1∨s.size=0:=by
     by_cases hz:s.size=0
     ·exact .inr hz
     ·left;have hl:0<s.data.toList.length:=by simp only [Array.length_toList];exact Nat.pos_of_ne_zero hz
      have:=List.all_eq_true.1 hk [.lit (.int .u8 (s.data.toList[0]).toNat)] (by unfold bytesD;exact List.mem_map.2 ⟨_,List.getElem_mem hl,rfl⟩);simp at this;omega
    refine ⟨ts,G,b1,b3,b4,⟨?_,fun w'=>?_,fun w' _=>?_⟩,by rw [b5];exact h,by rw [b5];exact Sub.refl _⟩
    ·rw [b2,hsl];rcases hk' with rfl | hz
     ·simp
     ·have:s.data.toList=[]:=List.eq_nil_of_length_eq_zero (by simpa using hz);simp [this,hz]
    ·rw [e];simp [Builtin.lenOf,hsl]
    ·rw [e,hsl,b2];have hex:s.extract 0 s.size=s:=by
      apply ByteArray.ext;simp
     simp only [Builtin.firstCells,hex,Sem.run_pure];congr 1;apply Array.ext';simp
   | _=>cases hn
  | sl es=>
   simp only [zJ,Prod.mk.injEq] at hn;obtain ⟨rfl,rfl⟩:=hn;exact plain (.sl es) es hv rfl (Art hv) hk
  | own es=>
   simp only [zJ,Prod.mk.injEq] at hn;obtain ⟨rfl,rfl⟩:=hn;cases es with
   | nil=>
    simp only [VOK] at hv;refine ⟨[],G,rfl,trivial,trivial,⟨by simp [T.valsE],fun w'=>?_,fun w' _=>?_⟩,by simpa [T.blocksE] using h,by simpa [T.blocksE] using Sub.refl _⟩
    ·rw [hv];simp [Builtin.lenOf]
    ·rw [hv];simp [Builtin.firstCells,T.valsE]
   | cons=>simp [VOK,LOK,L1,RI] at hv
  | sub s ps off len=>
   cases he:elemsOf F (.sub s ps off len) with
   | none=>simp [he] at hn
   | some es=>
    simp only [he] at hn
    split at hn
    ·cases hn
    ·rename_i hx;simp only [zJ,Prod.mk.injEq] at hn;obtain ⟨rfl,rfl⟩:=hn;exact plain _ _ hv he (by simpa using hx) hk
  | alias s ps=>
   cases hg:Own.getAt F s ps with
   | none=>simp [hg] at hn
   | some c=>
    simp only [hg] at hn;cases c with
    | sl es=>
     simp only [zJ,Prod.mk.injEq] at hn;obtain ⟨rfl,rfl⟩:=hn;obtain ⟨x,hx,hxn,hxv⟩:=hv;rw [h.getAt,hx] at hg;simp only [Option.map_some,zJ] at hg;have hxe:=Agu hg;have hw:=h.node_wf hx hxn;rw [hxe] at hw;refine plain (.alias s ps) _ ⟨x,hx,hxn,hxv⟩ ?_ (Art (Ad0 hw (by simp))) hk;simp only [elemsOf,h.getAt,hx,Option.map_some,hg]
    | own es=>
     simp only at hn;by_cases hex:(es.any fun c=>c.any ex1)=true
     ·simp only [hex,if_true] at hn;cases y with
      | tmp t=>
       simp only at hn;cases ht:Own.get F t with
       | own es'=>
        simp only [ht,zJ,Prod.mk.injEq] at hn;obtain ⟨rfl,rfl⟩:=hn;rw [h.get] at ht;have htd:=h.tidyG t;have hok:=h.okG t;have hne:getT G t≠noT:=by intro hz;rw [hz] at ht;simp [noT,T.erase] at ht
        have hf:=Acl hne;obtain ⟨u,G1,b1,b2,b3,b4,b5,b6⟩:=Ahn h (W:=fun u=>u=getT G t) hf rfl;have hev:a.eval (.tmp t)=(getT G t).val:=h.eval (hy t rfl) hf;rcases Ae5 htd ht with ⟨g,cap,el,sp,ts,e1,e2⟩ | ⟨e1,e2⟩
        ·rw [e1] at hok htd;obtain ⟨⟨k',_,hk',hcap⟩,w2,w3,w4,w5⟩:=hok;have hkt:∀ e∈ts,e.length=k:=by
          intro e he;have:=List.all_eq_true.1 hk (e.map T.erase) (by rw [← e2];exact List.mem_map.2 ⟨e,he,rfl⟩);simpa using this
         have hl:=Aat hkt;have hb:=(h.block (s:=t) (ps:=[]) (x:=getT G t) rfl (b:=(g,.cells (T.valsE ts++sp).toArray el (0,0))) (by rw [e1];simp [T.blocks])).1;subst b4;have hperm:((T.blocksE ts++H)++[(g,Obj.cells (T.valsE ts++sp).toArray el (0,0))]).Perm ((getT G t).blocks++H):=by
          rw [e1];simp only [T.blocks];exact List.perm_append_comm.trans (by simp)
         have hlen:es'.length=ts.length:=by rw [← e2];simp
         refine ⟨ts,G1,e2,htd,w5,⟨by rw [hl,hlen],fun w'=>?_,fun w' hw'=>?_⟩,b5.less hperm,Sub.trans (Sub.less hperm) b6⟩
         ·rw [hev,e1];simp [T.val,Builtin.lenOf,hlen]
         ·rw [hev,e1];simp only [T.val,hlen];refine run_firstCells_some w' k _ ⟨g,0,none⟩ _ cap _ hl fun j u hu=>?_;rw [Addr.add_plain];have hj:=(List.getElem?_eq_some_iff.1 hu).1;rw [cell_of_row w' g (0+j) _ el (0,0) (by rw [hw'];exact hb)];simp only [Nat.zero_add,List.getElem?_toArray];rw [List.getElem?_append_left hj];exact hu
        ·subst e2;simp only [opd,zJ] at ho;rw [h.get,ht] at ho;simp only [view,view1,D.alias.injEq] at ho;obtain ⟨rfl,rfl⟩:=ho;simp only [Own.getAt,D.getP,h.get,ht,zJ,D.own.injEq] at hg;subst hg;simp at hex
       | _=>simp [ht] at hn
      | _=>cases hn
     ·simp only [hex] at hn;simp only [Bool.false_eq_true,if_false,zJ,Prod.mk.injEq] at hn;obtain ⟨rfl,rfl⟩:=hn;refine plain (.alias s ps) _ hv ?_ (by simpa using hex) hk;simp only [elemsOf,hg]
    | _=>cases hn
  | _=>cases hn
theorem Ays {E:Env} (h:Inv n R M F G [] a w) {t u ty:Nat} {x y:Operand} (hx:Fits n x) (hy:Fits n y) (hu:rowT E.P u=true) (dst:Option Nat) (hd:∀ d,dst=some d->d<n) (ha:appendC E F t dst x y=some F') :
  ∃ v w',(Builtin.append_ #[t,u] ty #[a.eval x,a.eval y]).run E.P w=.ok v w'/\Post n R M (keys (Aa0 G)) w F' (a.put dst v) w':=by
 simp only [appendC] at ha;cases hs:sliceT E.P t with
 | none=>simp [hs] at ha
 | some e=>
  simp only [hs] at ha;cases hzz:zeroT E.P e with
  | none=>simp [hzz] at ha
  | some z=>
   simp only [hzz] at ha;cases hk:takeOp E F x with
   | none=>simp [hk] at ha
   | some r=>
    obtain ⟨dx,F1⟩:=r;cases dx with
    | own es=>
     simp only [hk] at ha;cases hn:newElems E F1 y with
     | none=>simp [hn] at ha
     | some q=>
      obtain ⟨new,F2⟩:=q;simp only [hn] at ha
      split at ha
      case isFalse=>cases ha
      rename_i hc;obtain ⟨q1,q2,q3,q4,q5,q6⟩:=hc;simp only [zJ] at ha;subst ha;obtain ⟨tx,G1,b1,b2,b3,b4,b5,b6⟩:=Af5 h hx hk;obtain ⟨tn,G2,c1,c2,c3,c4,c5,c6⟩:=Avx b5 hy hn q6 q4;obtain ⟨i,zv,uz,i1,i2,i3,i4,i5,i6,i7⟩:=Ag1 (M:=M) hzz;obtain ⟨z1,z2,z3,z4,z5⟩:=Aci i6 i5;have hsz:i.size=sizeT E.P e:=by simp [sizeT,i1]
      have hby:i.bytes=bytesT E.P e:=by simp [bytesT,i1]
      have hzl:zv.cells.size=sizeT E.P e:=by
       rw [← q3,← i3,← z1,← i4];have:=congrArg List.length z2;simp at this ⊢;omega
      rw [← hsz] at c4;have hut:=Ad2 hs;rw [← b2];have hmn:tn.length=new.length:=by rw [← c1];simp
      have hkn:∀ e'∈tn,e'.length=sizeT E.P e:=by
       intro e' he;have:=List.all_eq_true.1 q6 (e'.map T.erase) (by rw [← c1];exact List.mem_map.2 ⟨e',he,rfl⟩);simpa using this
      have grown:∀ (base:Option Addr) (sCap:Nat) (to:List (List T)),to.map (·.map T.erase)=es->T.tidyE to->T.wfE M to->(∀ e'∈to,e'.length=sizeT E.P e)->sCap<es.length+new.length ->
        (∀ w',w'.heap=w.heap->(Builtin.firstCells i.size es.length (.slice base es.length sCap)).run E.P w'=.ok (T.valsE to).toArray w') ->
        Inv n R M F2 G2 (T.blocksE (to++tn)++[]) a w->Sub (Aa0 G2++(T.blocksE (to++tn)++[])) (Aa0 G) ->
        ∃ v w',(Builtin.append_ #[t,u] ty #[.slice base es.length sCap,a.eval y]).run E.P w=.ok v w'/\Post n R M (keys (Aa0 G)) w (fin F2 dst (.own (es++new))) (a.put dst v) w':=by
       intro base sCap to t1 t2 t3 t4 t5 t6 t7 t8;have hlo:to.length=es.length:=by rw [← t1];simp
       have hr:=Amz (ty:=ty) hut hu i1 i2 c4 t6 t5 (by omega) (growslice_fits t5 (by rw [hby];exact q1));refine ⟨_,_,hr,?_⟩;have hge:=grownCap_ge w (es.length+new.length) sCap e;have hcm:grownCap w (es.length+new.length) sCap e<=maxLen:=grownCap_le_maxLen w _ sCap e (by simp [maxLen];omega);generalize hC:grownCap w (es.length+new.length) sCap e=C at hge hcm;have hcells:(T.valsE to).toArray++(T.valsE tn).toArray++Builtin.zeroCells zv.cells (C-(es.length+new.length))=(T.valsE (to++tn)++T.valsE (List.replicate (C-(es.length+new.length)) uz.cells)).toArray:=by
        apply Array.ext';rw [Aff];simp only [Array.toList_append,T.valsE_append];rw [Ad4 _ (by omega),Adq,z2,i4]
       rw [hcells];have hwid:∀ e'∈to++tn,e'.length=sizeT E.P e:=by
        intro e' he;rcases List.mem_append.1 he with he | he
        ·exact t4 e' he
        ·exact hkn e' he
       have hul:uz.cells.length=sizeT E.P e:=by rw [← q3,← i3,← z1];simp
       have hw:T.wf M (.own w.heap.size C e (T.valsE (List.replicate (C-(es.length+new.length)) uz.cells)) (to++tn)):=by
        simp only [T.wf];refine ⟨⟨sizeT E.P e,q4,hwid,?_⟩,by simp only [List.length_append,hlo,hmn];omega,hcm,?_,?_⟩
        ·rw [Aat (k:=sizeT E.P e) (by intro x hx;rw [List.eq_of_mem_replicate hx];exact hul)];simp only [List.length_replicate,List.length_append,hlo,hmn,← Nat.add_mul];congr 1;omega
        ·refine Adf (M:=M) ?_;rw [T.wfE_iff];intro x hx;rw [List.eq_of_mem_replicate hx];exact z4
        ·rw [T.wfE_iff] at t3 c3 ⊢;intro x hx;rcases List.mem_append.1 hx with hx | hx
         ·exact t3 x hx
         ·exact c3 x hx
       have hdrew:Inv n R M F2 G2 (T.blocksE (to++tn)++[]) a w.drew:=t7.heapEq rfl;have:=Alb (B:=keys (Aa0 G)) (w0:=w) hdrew C e (T.valsE (List.replicate (C-(es.length+new.length)) uz.cells)) (by
        rw [T.tidyE_iff] at t2 c2 ⊢;intro x hx;rcases List.mem_append.1 hx with hx | hx
        ·exact t2 x hx
        ·exact c2 x hx) hw dst hd (((Evo.refl' M w fun g hg=>t8 g hg)).heapEq (w2:=w.drew) rfl rfl rfl rfl)
       rw [List.map_append,t1,c1,List.length_append,hlo,hmn] at this;exact this
      rcases Ae5 b3 b1 with ⟨g,cap,el,sp,ts,e1,e2⟩ | ⟨e1,e2⟩
      ·subst e1;have hlo:ts.length=es.length:=by rw [← e2];simp
       obtain ⟨⟨k',hk'0,hk',hcap⟩,w2,w3,w4,w5⟩:=b4;have hks:∀ e'∈ts,e'.length=sizeT E.P e:=by
        intro e' he;have:=List.all_eq_true.1 q5 (e'.map T.erase) (by rw [← e2];exact List.mem_map.2 ⟨e',he,rfl⟩);simpa using this
       have hvl:=Aat hks;have hk2:sp.length+es.length*sizeT E.P e=cap*sizeT E.P e:=by
        rw [hlo] at hcap;by_cases hz:es.length=0
        ·have hc0:cap=0:=w2.2 (by rw [hlo];exact hz);simp only [hz,hc0,Nat.zero_mul] at hcap ⊢;exact hcap
        ·have:k'=sizeT E.P e:=by
          cases ts with
          | nil=>simp at hlo;omega
          | cons x ts=>rw [← hk' x (by simp),hks x (by simp)]
         rw [← this];exact hcap
       have hwts:T.wfE M ts:=w5;have htts:T.tidyE ts:=b3;have hbg:w.heap[g]? = some (.cells (T.valsE ts++sp).toArray el (0,0)):=c5.blk.heap (g,.cells (T.valsE ts++sp).toArray el (0,0)) (by simp [T.blocks]);simp only [T.val,hlo];by_cases hroom:es.length+new.length<=cap
       ·have hr:=An0 (ty:=ty) hut hu i1 c4 (base:=some ⟨g,0,none⟩) hroom;have hst:=run_storeCells_at E.P g (es.length*sizeT E.P e) el (T.valsE tn) 0 _ w hbg (by
         rw [Aat hkn,hmn];simp only [List.size_toArray,List.length_append,hvl,hlo,Nat.add_zero];rw [← Nat.add_mul];have:(es.length+new.length)*sizeT E.P e<=cap*sizeT E.P e:=Nat.mul_le_mul_right _ hroom
         omega) (Adf c3)
        simp only [Nat.add_zero] at hst;have hvn:(T.valsE tn).length=new.length*sizeT E.P e:=by rw [Aat hkn,hmn]
        have hcells:(T.valsE ts++sp).take (es.length*sizeT E.P e)++T.valsE tn++(T.valsE ts++sp).drop (es.length*sizeT E.P e+(T.valsE tn).length)=T.valsE (ts++tn)++sp.drop (new.length*sizeT E.P e):=by
         have hl1:es.length*sizeT E.P e=(T.valsE ts).length:=by rw [hvl,hlo]
         rw [hl1,List.take_left,List.drop_length_add_append,T.valsE_append,hvn]
        rw [hcells] at hst;refine ⟨.slice (some ⟨g,0,none⟩) (es.length+new.length) cap,w.setRow g (T.valsE (ts++tn)++sp.drop (new.length*sizeT E.P e)).toArray,?_,?_⟩
        ·rw [hr];simp only [Addr.add_plain,Nat.zero_add,hsz,Sem.run_bind,hst,Result.andThen_ok,Sem.run_pure]
        ·let tt:T:=.own g cap el (sp.drop (new.length*sizeT E.P e)) (ts++tn)
         have hperm:((g,Obj.cells (T.valsE ts++sp).toArray el (0,0))::(Aa0 G2++(T.blocksE (ts++tn)))).Perm (Aa0 G2++(T.blocksE tn++((T.own g cap el sp ts).blocks++[]))):=by
          simp only [T.blocks,List.append_nil,T.blocksE_append];refine List.perm_middle.symm.trans ?_;refine List.Perm.append_left _ ?_;refine List.Perm.trans ?_ List.perm_append_comm;simp
         have hB:=(c5.blk.perm hperm.symm).setRow (L':=(T.valsE (ts++tn)++sp.drop (new.length*sizeT E.P e)).toArray);have hgn:M g=none:=c5.blk.apart (g,.cells (T.valsE ts++sp).toArray el (0,0)) (by simp [T.blocks]);have hperm2:((g,Obj.cells (T.valsE (ts++tn)++sp.drop (new.length*sizeT E.P e)).toArray el (0,0))::(Aa0 G2++(T.blocksE (ts++tn)))).Perm (Aa0 G2++(tt.blocks++[])):=by
          simp only [tt,T.blocks,List.append_nil];exact List.perm_middle.symm
         have hinv:Inv n R M F2 G2 (tt.blocks++[]) a (w.setRow g (T.valsE (ts++tn)++sp.drop (new.length*sizeT E.P e)).toArray):=
          c5.world (Mem.le_refl M) (hB.perm hperm2) (c5.mem.setRow hgn _)
         have hwf:T.wf M tt:=by
          simp only [tt,T.wf];refine ⟨⟨sizeT E.P e,q4,?_,?_⟩,?_,w3,fun x hx=>w4 x (List.mem_of_mem_drop hx),?_⟩
          ·intro e' he;rcases List.mem_append.1 he with he | he
           ·exact hks e' he
           ·exact hkn e' he
          ·have:(es.length+new.length)*sizeT E.P e<=cap*sizeT E.P e:=Nat.mul_le_mul_right _ hroom;rw [Nat.add_mul] at this;simp only [List.length_drop,List.length_append,hlo,hmn,Nat.add_mul];omega
          ·simp only [List.length_append,hlo,hmn];omega
          ·rw [T.wfE_iff] at hwts c3 ⊢;intro x hx;rcases List.mem_append.1 hx with hx | hx
           ·exact hwts x hx
           ·exact c3 x hx
         have hgB:g∈keys (Aa0 G2++(T.blocksE tn++((T.own g cap el sp ts).blocks++[]))):=by
          exact (hperm.map Prod.fst).mem_iff.1 (List.mem_map.2 ⟨_,List.mem_cons_self,rfl⟩)
         have hsub:∀ k∈keys (Aa0 G2++(T.blocksE tn++((T.own g cap el sp ts).blocks++[]))),k∈keys (Aa0 G):=fun k hk=>by
          have h1:=c6 k hk;have h2:=b6 k h1;simpa [keys] using h2
         have:=Ace (M:=M) (w:=w) (B:=keys (Aa0 G)) hinv (show tt.tidy by
          simp only [tt,T.tidy,T.tidyE_iff] at htts c2 ⊢;intro x hx;rcases List.mem_append.1 hx with hx | hx
          ·exact htts x hx
          ·exact c2 x hx) (Abj (show Giv M tt from hwf)) dst hd (((Evo.refl M (keys (Aa0 G)) w).setRow (hsub g hgB) _).weaken fun k hk=>by
           refine hsub k ?_;have h1:=(hperm2.map Prod.fst).mem_iff.2 hk;have h2:k∈((g,Obj.cells (T.valsE ts++sp).toArray el (0,0))::(Aa0 G2++(T.blocksE (ts++tn)))).map Prod.fst:=by simpa using h1
           exact (hperm.map Prod.fst).mem_iff.1 h2)
         simp only [tt,T.erase,T.eraseE_eq,List.map_append,e2,c1,T.val,List.length_append,hlo,hmn] at this;exact this
       ·refine grown (some ⟨g,0,none⟩) cap ts e2 htts hwts hks (by omega) ?_ ?_ ?_
        ·intro w' hw';refine run_firstCells_some w' i.size _ ⟨g,0,none⟩ _ cap _ (by rw [hvl,hlo,hsz]) fun j v hv=>?_;rw [Addr.add_plain];have hj:=(List.getElem?_eq_some_iff.1 hv).1;rw [cell_of_row w' g (0+j) _ el (0,0) (by rw [hw'];exact hbg)];simp only [Nat.zero_add,List.getElem?_toArray];rw [List.getElem?_append_left hj];exact hv
        ·refine c5.less (rest:=[(g,Obj.cells (T.valsE ts++sp).toArray el (0,0))]) ?_;simp only [T.blocks,List.append_nil,T.blocksE_append];rw [List.append_assoc];refine List.Perm.trans ?_ List.perm_append_comm;refine List.perm_append_comm_assoc _ _ _ |>.trans ?_
         refine List.Perm.trans (List.Perm.append_left _ List.perm_append_comm |>.trans ?_) (List.Perm.refl _);refine List.Perm.trans List.perm_append_comm ?_;simp
        ·intro k hk;have h1:k∈keys (Aa0 G2++(T.blocksE tn++((T.own g cap el sp ts).blocks++[]))):=by
          simp only [T.blocks,keys,T.blocksE_append,List.map_append,List.mem_append,List.append_nil,List.map_cons,List.mem_cons] at hk ⊢;rcases hk with hk | hk | hk
          ·exact .inl hk
          ·exact .inr (.inr (.inr hk))
          ·exact .inr (.inl hk)
         have h2:=b6 k (c6 k h1);simpa [keys] using h2
      ·subst e1 e2;simp only [T.val];by_cases hm:new.length=0
       ·have hr:=An0 (ty:=ty) hut hu i1 c4 (base:=none) (sLen:=0) (sCap:=0) (by omega);have hn0:new=[]:=List.eq_nil_of_length_eq_zero hm;have htn:tn=[]:=List.eq_nil_of_length_eq_zero (by omega);subst hn0 htn;refine ⟨.slice none 0 0,w,by rw [hr];simp,?_⟩;have:=Ace (M:=M) (w:=w) (B:=keys (Aa0 G)) (t:=.nil) (by simpa [T.blocks,T.blocksE] using c5) (by simp [T.tidy]) (by simp [Aao,T.wf]) dst hd (Evo.refl' M w fun k hk=>by
         have h1:k∈(Aa0 G2++(T.blocksE []++(T.nil.blocks++[]))).map Prod.fst:=by simpa [T.blocks,T.blocksE,keys] using hk
         have h2:=b6 k (c6 k h1)
         simpa [keys] using h2)
        simpa [T.erase,T.val] using this
       ·refine grown none 0 [] rfl trivial trivial (by simp) (by simp;omega) ?_ (by simpa [T.blocks] using c5) ?_
        ·intro w' _;simp [Builtin.firstCells,T.valsE]
        ·intro k hk;have h1:k∈(Aa0 G2++(T.blocksE tn++(T.nil.blocks++[]))).map Prod.fst:=by simpa [T.blocks] using hk
         have h2:=b6 k (c6 k h1);simpa [keys] using h2
    | _=>simp [hk] at ha
end
end Go.Own
namespace Go.Own
open D
theorem Ayu (a b:ByteArray):(a == b)=true↔a=b:=by
 rcases a with ⟨x⟩
 rcases b with ⟨y⟩
 show (x == y)=true↔_;simp
theorem Akg {q:IntKind}:∀ {l:List Value},l.all (intOfKind q)=true->∃ zs:List Int,l=zs.map (Value.int q)
 | [],_=>⟨[],rfl⟩
 | v::l,h=>by
  simp only [List.all_cons,Bool.and_eq_true] at h;obtain ⟨zs,rfl⟩:=Akg h.2;cases v<;>simp [intOfKind] at h;rename_i k n;obtain ⟨rfl,_⟩:=h;exact ⟨n::zs,rfl⟩
theorem Acn {P:Program} {k:Nat} {v:Value} (h:keyT P k v=true) :
  (∃ q n,P.underlying k=some (.int q)/\v=.int q n)∨(∃ s,P.underlying k=some .string/\v=.string s) ∨
  (∃ (m e:Nat) (q:IntKind) (zs:List Int),P.underlying k=some (.array m e)/\P.underlying e=some (.int q)/\sizeT P e=1/\v=.agg (zs.map (Value.int q)).toArray/\zs.length=m):=by
 cases v with
 | int q n=>
  simp only [keyT] at h
  split at h
  ·rename_i q' hq;simp only [beq_iff_eq] at h;subst h;exact .inl ⟨_,_,hq,rfl⟩
  ·cases h
 | string s=>
  simp only [keyT] at h
  split at h
  ·rename_i hs;exact .inr (.inl ⟨s,hs,rfl⟩)
  ·cases h
 | agg cs=>
  simp only [keyT] at h
  split at h
  ·rename_i m e hm
   split at h
   ·rename_i q he;simp only [Bool.and_eq_true,beq_iff_eq] at h;obtain ⟨⟨h1,h2⟩,h3⟩:=h;obtain ⟨zs,hz⟩:=Akg h3;refine .inr (.inr ⟨m,e,q,zs,hm,he,h2,?_,?_⟩)
    ·congr 1;exact Array.ext' (by simpa using hz)
    ·have:=congrArg List.length hz;simp at this;omega
   ·cases h
  ·cases h
 | _=>simp [keyT] at h
theorem Aop (q:IntKind):∀ (a b:List Int),a.length=b.length->(((a.map (Value.int q)).zip (b.map (Value.int q))).all fun x=>cellBeq x.1 x.2)=(a == b)
 | [],[],_=>rfl
 | x::a,y::b,h=>by
  have ih:=Aop q a b (by simpa using h);simp only [List.map_cons,List.zip_cons_cons,List.all_cons,ih];simp only [cellBeq,beq_self_eq_true,Bool.true_and];rfl
theorem Aob {q:IntKind} {a b:List Int} (h:a.length=b.length):keyBeq (.agg (a.map (Value.int q)).toArray) (.agg (b.map (Value.int q)).toArray)=(a == b):=by
 simp only [keyBeq];rw [Aop q a b h];simp [h]
section
variable {P:Program}
theorem Axn {P:Program} {e:Nat} {q:IntKind} (he:P.underlying e=some (.int q)):isAggT P e=false:=by simp [isAggT,he]
theorem Aiu {e:Nat} {q:IntKind} (he:P.underlying e=some (.int q)) {cs:Array Value} {i:Nat} {v:Value} (hv:cs[i]? = some v) (w:World):(part e cs i).run P w=.ok v w:=by
 unfold part;rw [Sem.run_bind,Agg he w];simp [Axn he,hv]
theorem Aiv {e:Nat} {q:IntKind} (he:P.underlying e=some (.int q)) (hs:sizeT P e=1) (w:World):(sizeOf e).run P w=.ok 1 w:=by
 obtain ⟨i,hi⟩:=Acm he;rw [Acb hi w,hs]
theorem Apa (d : Nat) {t m e : Nat} {q : IntKind} (ht : P.underlying t = some (.array m e)) (he : P.underlying e = some (.int q)) (hs : sizeT P e = 1) {a b : List Int} (ha : a.length = m) (hb : b.length = m) (w : World) :
    (Op.equalIn (d + 1 + 1) t (.agg (a.map (Value.int q)).toArray) (.agg (b.map (Value.int q)).toArray)).run P w = .ok (a == b) w := by
  rw [Op.equalIn];simp only [Sem.run_bind, run_underlying ht, Result.andThen_ok, Aiv he hs, Nat.mul_one];rw [Std.Legacy.Range.forIn_eq_forIn_range'];have hsz : (Std.Legacy.Range.size [0:m]) = m := by simp [Std.Legacy.Range.size]
  simp only [hsz]
  have key : ∀ (k i : Nat), i + k = m -> (do
      let r ← forIn (List.range' i k 1) ((none, ()) : Option Bool × Unit) fun i (_ : Option Bool × Unit) => do
        let __do_lift ← part e (a.map (Value.int q)).toArray i
        let __do_lift_1 ← part e (b.map (Value.int q)).toArray i
        let __do_lift ← Op.equalIn (d + 1) e __do_lift __do_lift_1
        if (!__do_lift) = true then pure (ForInStep.done (some false, ())) else pure (ForInStep.yield (none, ()))
      match r.1 with
      | some a => pure a
      | none => pure true : Sem Bool).run P w = .ok (a.drop i == b.drop i) w := by
    intro k
    induction k with
    | zero =>
      intro i hi;rw [List.drop_eq_nil_of_le (by omega), List.drop_eq_nil_of_le (by omega)];simp
    | succ k ih =>
      intro i hi;have hai : i < a.length := by omega
      have hbi : i < b.length := by omega
      have pa := Aiu (P := P) he (cs := (a.map (Value.int q)).toArray) (i := i) (v := .int q a[i]) (by simp [List.getElem?_map, List.getElem?_eq_getElem hai]) w;have pb := Aiu (P := P) he (cs := (b.map (Value.int q)).toArray) (i := i) (v := .int q b[i]) (by simp [List.getElem?_map, List.getElem?_eq_getElem hbi]) w;have pe := run_equalIn_int (P := P) w d e q q a[i] b[i] he;rw [List.drop_eq_getElem_cons hai, List.drop_eq_getElem_cons hbi];have ih' := ih (i + 1) (by omega);simp only [List.range'_succ, List.forIn_cons, Sem.run_bind, pa, pb, pe, Result.andThen_ok] at ih' ⊢;by_cases hab : a[i] = b[i]
      · have h1 : (a[i] == b[i]) = true := by simpa using hab
        have h2 : (a[i] :: a.drop (i + 1) == b[i] :: b.drop (i + 1)) = (a.drop (i + 1) == b.drop (i + 1)) := by
          show (a[i] == b[i] && _) = _;rw [h1]; rfl
        rw [h2, ← ih'];simp [h1]
      · have h1 : (a[i] == b[i]) = false := by simpa using hab
        have h2 : (a[i] :: a.drop (i + 1) == b[i] :: b.drop (i + 1)) = false := by
          show (a[i] == b[i] && _) = _;rw [h1]; rfl
        rw [h2];simp [h1]
  have := key m 0 (by omega);simp only [List.drop_zero, Sem.run_bind] at this;rw [← this];have hc : ∀ {α β : Type} (r : Result α) (f g : α -> World -> Result β), (∀ a w, f a w = g a w) -> r.andThen f = r.andThen g := fun r f g h => by
    rw [show f = g from funext fun a => funext fun w => h a w]
  exact hc _ _ _ fun a w' => by rcases a with ⟨_ | _, _⟩ <;> rfl
theorem Arq {t m e:Nat} {q:IntKind} (ht:P.underlying t=some (.array m e)) (he:P.underlying e=some (.int q)) (hs:sizeT P e=1) {a b:List Int} (ha:a.length=m) (hb:b.length=m) (w:World) :
  (Op.equal t (.agg (a.map (Value.int q)).toArray) (.agg (b.map (Value.int q)).toArray)).run P w=.ok (a == b) w:=Apa 9998 ht he hs ha hb w
theorem Arp (d : Nat) {k : Nat} {v : Value} (h : keyT P k v = true) (b : Bool) (w : World) : (Instr.checkKey b (d + 1 + 1) k v).run P w = .ok () w := by
  rcases Acn h with ⟨q, n, hq, rfl⟩ | ⟨s, hs, rfl⟩ | ⟨m, e, q, zs, hm, he, hsz, rfl, hl⟩
  · rw [Instr.checkKey]; simp only [Sem.run_bind, run_underlying hq, Result.andThen_ok, Sem.run_pure]
  · rw [Instr.checkKey]; simp only [Sem.run_bind, run_underlying hs, Result.andThen_ok, Sem.run_pure]
  · rw [Instr.checkKey]
    simp only [Sem.run_bind, run_underlying hm, Result.andThen_ok, Aiv he hsz, Nat.mul_one];rw [Std.Legacy.Range.forIn_eq_forIn_range'];have hszr : (Std.Legacy.Range.size [0:m]) = m := by simp [Std.Legacy.Range.size]
    simp only [hszr]
    have key : ∀ (c i : Nat), i + c = m -> (forIn (List.range' i c 1) PUnit.unit fun i (_ : PUnit) => (do
        let __do_lift ← sizeOf e
        let __do_lift ← part e (zs.map (Value.int q)).toArray (i * __do_lift)
        Instr.checkKey b (d + 1) e __do_lift
        pure (ForInStep.yield PUnit.unit) : Sem (ForInStep PUnit))).run P w = .ok PUnit.unit w := by
      intro c
      induction c with
      | zero => intro i hi; simp
      | succ c ih =>
        intro i hi;have hai : i < zs.length := by omega
        have pa := Aiu (P := P) he (cs := (zs.map (Value.int q)).toArray) (i := i) (v := .int q zs[i]) (by simp [List.getElem?_map, List.getElem?_eq_getElem hai]) w;have pc : (Instr.checkKey b (d + 1) e (.int q zs[i])).run P w = .ok () w := by
          rw [Instr.checkKey]; simp only [Sem.run_bind, run_underlying he, Result.andThen_ok, Sem.run_pure]
        have ih' := ih (i + 1) (by omega);simp only [List.range'_succ, List.forIn_cons, Sem.run_bind, Aiv he hsz, Nat.mul_one, pa, Result.andThen_ok, pc, Sem.run_pure];exact ih'
    have := key m 0 (by omega);rw [this];rfl
theorem Ait {k:Nat} {v:Value} (h:keyT P k v=true) (b:Bool) (w:World):(Instr.checkKey b 10000 k v).run P w=.ok () w:=Arp 9998 h b w
def Ack (k:Value):List (Value×Nat×D×Value)->Nat->Option (Nat×D×Value)
 | [],_=>none
 | x::r,i=>if keyBeq k x.1 then some (i,x.2.2.1,x.2.2.2) else Ack k r (i+1)
theorem Aoh {kt:Nat} {k:Value} (hk:keyT P kt k=true) {es:List (Value×Nat×D×Value)} (hes:∀ x∈es,keyT P kt x.1=true) (w:World) :
  (Instr.findKey kt k (T.entries es).toList).run P w=.ok ((Ack k es 0).map fun x=>(x.1,x.2.2)) w:=by
 unfold Instr.findKey T.entries;simp only [List.toList_toArray];rcases Acn hk with ⟨q,n,hq,rfl⟩ | ⟨s,hs,rfl⟩ | ⟨m,e,q,zs,hm,he,hsz,rfl,hl⟩
 ·have:∀ (es:List (Value×Nat×D×Value)) (i:Nat),(∀ x∈es,keyT P kt x.1=true)->Instr.findNow (.int q) (.int q n) (es.map fun x=>({ key:=x.1,val:=x.2.2.2,born:=x.2.1 }:MapEntry)) i=some ((Ack (.int q n) es i).map fun x=>(x.1,x.2.2)):=by
   intro es
   induction es with
   | nil=>intro i _;rfl
   | cons x es ih=>
    intro i hx;obtain ⟨q',n',hq',hx1⟩:∃ q' n',P.underlying kt=some (.int q')/\x.1=.int q' n':=by
     rcases Acn (hx x (by simp)) with ⟨q',n',a,b⟩ | ⟨s,a,_⟩ | ⟨m,e,q',zs,a,_⟩
     ·exact ⟨q',n',a,b⟩
     ·rw [hq] at a;cases a
     ·rw [hq] at a;cases a
    rw [hq] at hq';cases hq';simp only [List.map_cons,Instr.findNow,Ack,hx1,Instr.sameNow,if_true,keyBeq,beq_self_eq_true,Bool.true_and];by_cases hn:(n == n')=true
    ·simp [hn]
    ·have hn':(n == n')=false:=by simpa using hn
     simp only [hn',Bool.false_eq_true,if_false];exact ih (i+1) fun y hy=>hx y (by simp [hy])
  simp only [Sem.run_bind,run_underlying hq,Result.andThen_ok,this es 0 hes,Sem.run_pure]
 ·have:∀ (es:List (Value×Nat×D×Value)) (i:Nat),(∀ x∈es,keyT P kt x.1=true)->Instr.findNow .string (.string s) (es.map fun x=>({ key:=x.1,val:=x.2.2.2,born:=x.2.1 }:MapEntry)) i=some ((Ack (.string s) es i).map fun x=>(x.1,x.2.2)):=by
   intro es
   induction es with
   | nil=>intro i _;rfl
   | cons x es ih=>
    intro i hx;obtain ⟨s',hx1⟩:∃ s',x.1=.string s':=by
     rcases Acn (hx x (by simp)) with ⟨q',n',a,b⟩ | ⟨s',a,b⟩ | ⟨m,e,q',zs,a,_⟩
     ·rw [hs] at a;cases a
     ·exact ⟨s',b⟩
     ·rw [hs] at a;cases a
    simp only [List.map_cons,Instr.findNow,Ack,hx1,Instr.sameNow,keyBeq];by_cases hn:(s == s')=true
    ·simp [hn]
    ·have hn':(s == s')=false:=by simpa using hn
     simp only [hn',Bool.false_eq_true,if_false];exact ih (i+1) fun y hy=>hx y (by simp [hy])
  simp only [Sem.run_bind,run_underlying hs,Result.andThen_ok,this es 0 hes,Sem.run_pure]
 ·have ask:∀ (es:List (Value×Nat×D×Value)) (i:Nat),(∀ x∈es,keyT P kt x.1=true)->(Instr.findAsking kt (.agg (zs.map (Value.int q)).toArray) (es.map fun x=>({ key:=x.1,val:=x.2.2.2,born:=x.2.1 }:MapEntry)) i).run P w=.ok ((Ack (.agg (zs.map (Value.int q)).toArray) es i).map fun x=>(x.1,x.2.2)) w:=by
   intro es
   induction es with
   | nil=>intro i _;rfl
   | cons x es ih=>
    intro i hx;obtain ⟨zs',hx1,hl'⟩:∃ zs':List Int,x.1=.agg (zs'.map (Value.int q)).toArray/\zs'.length=m:=by
     rcases Acn (hx x (by simp)) with ⟨q',n',a,b⟩ | ⟨s',a,b⟩ | ⟨m',e',q',zs',a,b,_,c,d⟩
     ·rw [hm] at a;cases a
     ·rw [hm] at a;cases a
     ·rw [hm] at a;cases a;rw [he] at b;cases b;exact ⟨zs',c,d⟩
    have hq:=Arq (P:=P) hm he hsz hl hl' w;simp only [List.map_cons,Instr.findAsking,Ack,hx1,Sem.run_bind,hq,Result.andThen_ok,Aob (q:=q) (hl.trans hl'.symm)];by_cases hn:(zs == zs')=true
    ·simp [hn]
    ·have hn':(zs == zs')=false:=by simpa using hn
     simp only [hn',Bool.false_eq_true,if_false];exact ih (i+1) fun y hy=>hx y (by simp [hy])
  cases es with
  | nil=>simp [Instr.findNow,Ack,run_underlying hm]
  | cons x es=>
   have hnow:Instr.findNow (.array m e) (.agg (zs.map (Value.int q)).toArray) ((x::es).map fun x=>({ key:=x.1,val:=x.2.2.2,born:=x.2.1 }:MapEntry)) 0=none:=by
    simp [Instr.findNow,Instr.sameNow]
   simp only [Sem.run_bind,run_underlying hm,Result.andThen_ok,hnow];exact ask (x::es) 0 hes
end
theorem Aqj (k:Value):∀ (es:List (Value×Nat×D×Value)) (i:Nat),look k (es.map fun x=>(x.1,x.2.2.1))=(Ack k es i).map fun x=>x.2.1
 | [],_=>rfl
 | x::es,i=>by
  simp only [List.map_cons,look,Ack]
  split
  ·rfl
  ·exact Aqj k es (i+1)
theorem Ami {k:Value}:∀ {es:List (Value×Nat×D×Value)} {i j:Nat} {d:D} {v:Value},Ack k es i=some (j,d,v)->∃ x,i<=j/\es[j-i]? = some x/\x.2.2=(d,v)/\keyBeq k x.1=true/\∀ d',upd k d' (es.map fun x=>(x.1,x.2.2.1))=(es.set (j-i) (x.1,x.2.1,d',v)).map fun x=>(x.1,x.2.2.1)
 | [],_,_,_,_,h=>by cases h
 | x::es,i,j,d,v,h=>by
  simp only [Ack] at h
  split at h
  ·rename_i hk;simp only [zJ,Prod.mk.injEq] at h;obtain ⟨rfl,rfl,rfl⟩:=h;exact ⟨x,Nat.le_refl _,by simp,rfl,hk,fun d'=>by simp [upd,hk]⟩
  ·rename_i hk;obtain ⟨y,h1,h2,h3,h4,h5⟩:=Ami h;have hj:j-i=(j-(i+1))+1:=by omega
   refine ⟨y,by omega,by rw [hj];simpa using h2,h3,h4,fun d'=>?_⟩;rw [hj];simp only [List.map_cons,upd,hk,Bool.false_eq_true,if_false,List.set_cons_succ,h5 d']
theorem Aq0 {k:Value}:∀ {es:List (Value×Nat×D×Value)} {i:Nat},Ack k es i=none->∀ d',upd k d' (es.map fun x=>(x.1,x.2.2.1))=(es.map fun x=>(x.1,x.2.2.1))++[(k,d')]
 | [],_,_,_=>rfl
 | x::es,i,h,d'=>by
  simp only [Ack] at h
  split at h
  ·cases h
  ·rename_i hk;simp only [List.map_cons,upd,hk,Bool.false_eq_true,if_false,Aq0 h d',List.cons_append]
theorem Am2 (q:IntKind) (n:Nat):∀ (a:List Int),(((a.map (Value.int q)).zip (a.map (Value.int q))).all fun x=>Instr.sameBits n x.1 x.2)=true
 | []=>rfl
 | x::a=>by
  simp only [List.map_cons,List.zip_cons_cons,List.all_cons,Am2 q n a,Bool.and_true];cases n<;>simp [Instr.sameBits]
theorem Azc {P:Program} {kt:Nat} {a b:Value} (ha:keyT P kt a=true) (hb:keyT P kt b=true) (h:keyBeq a b=true):a=b:=by
 rcases Acn ha with ⟨q,n,hq,rfl⟩ | ⟨s,hs,rfl⟩ | ⟨m,e,q,zs,hm,he,hsz,rfl,hl⟩
 ·rcases Acn hb with ⟨q',n',hq',rfl⟩ | ⟨s',hs',rfl⟩ | ⟨m',e',q',zs',hm',_⟩
  ·simp [keyBeq] at h;obtain ⟨rfl,rfl⟩:=h;rfl
  ·simp [keyBeq] at h
  ·rw [hq] at hm';cases hm'
 ·rcases Acn hb with ⟨q',n',hq',rfl⟩ | ⟨s',hs',rfl⟩ | ⟨m',e',q',zs',hm',_⟩
  ·simp [keyBeq] at h
  ·simp only [keyBeq] at h;rw [(Ayu _ _).1 h]
  ·rw [hs] at hm';cases hm'
 ·rcases Acn hb with ⟨q',n',hq',rfl⟩ | ⟨s',hs',rfl⟩ | ⟨m',e',q',zs',hm',he',hsz',rfl,hl'⟩
  ·rw [hm] at hq';cases hq'
  ·rw [hm] at hs';cases hs'
  ·rw [hm] at hm';cases hm';rw [he] at he';cases he';rw [Aob (hl.trans hl'.symm)] at h;have:zs=zs':=by simpa using h
   rw [this]
theorem Av5 {P:Program} {kt:Nat} {a:Value} (ha:keyT P kt a=true):Instr.sameBits 10000 a a=true:=by
 show Instr.sameBits (9999+1) a a=true;rcases Acn ha with ⟨q,n,hq,rfl⟩ | ⟨s,hs,rfl⟩ | ⟨m,e,q,zs,hm,he,hsz,rfl,hl⟩
 ·simp [Instr.sameBits]
 ·simp only [Instr.sameBits];exact (Ayu _ _).2 rfl
 ·simp only [Instr.sameBits,List.toList_toArray,beq_self_eq_true,Bool.true_and];exact Am2 q 9999 zs
theorem Axo {P:Program} {kt:Nat} {a:Value} (ha:keyT P kt a=true):T.plainKey a=true:=by
 rcases Acn ha with ⟨q,n,hq,rfl⟩ | ⟨s,hs,rfl⟩ | ⟨m,e,q,zs,hm,he,hsz,rfl,hl⟩
 ·rfl
 ·rfl
 ·simp [T.plainKey,T.keyCell]
theorem Bbf {M:Mem} {d:D} {v:Value} (h:T.wfV M d v):∃ t:T,t.erase=d/\t.val=v/\t.tidy/\Giv M t/\t.blocks=[]:=by
 have leaf:RI M d v->∃ t:T,t.erase=d/\t.val=v/\t.tidy/\Giv M t/\t.blocks=[]:=fun k=>by
  refine ⟨.leaf d v,by simp [T.erase],by simp [T.val],?_,k,by simp [T.blocks]⟩;cases d<;>simp_all [T.tidy,RI]
 cases d with
 | agg cs=>
  obtain ⟨vs,rfl,h2⟩:=h;obtain ⟨ts,a1,a2,a3,a4,a5⟩:=Aer h2;have hb:T.blocksC ts=[]:=by rw [T.blocksC_eq,List.flatMap_eq_nil_iff];exact a5
  exact ⟨.agg ts,by simp [T.erase,T.eraseC_eq,a1],by simp [T.val,a2],a3,a4,by simp [T.blocks,hb]⟩
 | own es=>
  cases es with
  | nil=>
   have h:v=.slice none 0 0:=h;subst h;exact ⟨.nil,by simp [T.erase],by simp [T.val],by simp [T.tidy],by simp [Giv,T.wf],by simp [T.blocks]⟩
  | cons=>simp [T.wfV,RI] at h
 | _=>exact leaf h
theorem Asx {P:Program} {t k e:Nat} (h:mapT P t=some (k,e)):P.underlying t=some (.map k e):=by
 unfold mapT at h
 split at h
 ·rename_i k' e' hm;simp only [zJ,Prod.mk.injEq] at h;obtain ⟨rfl,rfl⟩:=h;exact hm
 ·cases h
theorem Asu {M:Mem} {G:FT}:∀ {cs:List D} {vs l:List Value},All2 (VC M G) cs vs->litsOf cs=some l->vs=l
 | _,_,_,.nil,h=>by simp only [litsOf,zJ] at h;exact h
 | _,_,l,@All2.cons _ _ _ c v cs _ p q,h=>by
  cases c with
  | lit x=>
   simp only [litsOf] at h;cases hl:litsOf cs with
   | none=>simp [hl] at h
   | some l'=>
    simp only [hl,Option.map_some,zJ] at h;subst h;rw [Asu q hl];obtain ⟨_,h2 | ⟨h2,_⟩⟩:=p
    ·simp only [L1,RI] at h2;rw [h2.1]
    ·cases h2
  | _=>simp [litsOf] at h
theorem Auo {M:Mem} {G:FT} {d:D} {v k:Value} (h:VOK M G d v) (hk:keyOf d=some k):v=k:=by
 cases d with
 | lit x=>simp only [keyOf,zJ] at hk;subst hk;exact Abb h
 | agg cs=>
  obtain ⟨vs,rfl,h2⟩:=h;simp only [keyOf] at hk;cases hl:litsOf cs with
  | none=>simp [hl] at hk
  | some l=>
   simp only [hl,Option.map_some,zJ] at hk;rw [← hk,Asu h2 hl]
 | _=>simp [keyOf] at hk
section
variable {n:Nat} {R:Nat->Value} {M:Mem} {F F':Fr} {G:FT} {H:Blks} {a:Act} {w:World}
theorem Auj (h:Inv n R M F G [] a w) {t:T} (ht:t.tidy) (hg:Giv M t) (hb:t.blocks=[]) (ok b:Bool) (dst:Option Nat) (hd:∀ d,dst=some d->d<n) :
  Post n R M (keys (Aa0 G)) w (fin F dst (if ok then .tup [t.erase,.lit (.bool b)] else t.erase)) (a.put dst (if ok then .tuple #[t.val,.bool b] else t.val)) w:=by
 cases ok with
 | false=>
  have:=Ace (M:=M) (w:=w) (B:=keys (Aa0 G)) (t:=t) (by rw [hb];exact h) ht (Abj hg) dst hd (by rw [hb];simpa using Evo.refl M (keys (Aa0 G)) w);simpa using this
 | true=>
  have hbl:(T.tup [t,.leaf (.lit (.bool b)) (.bool b)]).blocks=[]:=by simp [T.blocks,T.blocksC,hb]
  have:=Ace (M:=M) (w:=w) (B:=keys (Aa0 G)) (t:=.tup [t,.leaf (.lit (.bool b)) (.bool b)]) (by rw [hbl];exact h) ⟨ht,by simp [T.tidy],trivial⟩ (by
   intro c hc;simp only [List.mem_cons,List.not_mem_nil,or_false] at hc;rcases hc with rfl | rfl
   ·cases c with
    | leaf d v=>exact .inr hg
    | agg cs=>exact hg
    | tup=>exact hg.elim
    | _=>exact hg
   ·exact .inr (by simp only [RI];exact ⟨trivial,rfl⟩)) dst hd (by rw [hbl];simpa using Evo.refl M (keys (Aa0 G)) w)
  simpa [T.erase,T.eraseC,T.val,T.vals] using this
theorem Azj {E:Env} (h:Inv n R M F G [] a w) {t:Nat} {x kd d:D} {v kv:Value} (hx:VOK M G x v) (hk:VOK M G kd kv) {ok:Bool} (hd:lookupD E F t x kd ok=some d) (dst:Option Nat) (hdst:∀ d,dst=some d->d<n) :
  ∃ u,(Instr.lookup t v kv ok).run E.P w=.ok u w/\Post n R M (keys (Aa0 G)) w (fin F dst d) (a.put dst u) w:=by
 unfold lookupD at hd
 split at hd
 case h_2=>cases hd
 rename_i kt e s ps kv' hm hkv;have hkk:=Auo hk hkv;subst hkk;obtain ⟨y,hy,hyn,rfl⟩:=hx
 split at hd
 case h_2=>cases hd
 rename_i es z hg hz;rw [h.getAt,hy] at hg;simp only [Option.map_some,zJ] at hg;obtain ⟨r,clock,xs,rfl,rfl⟩:=Amg (h.node_tidy hy) hg;have hw:=h.node_wf hy hyn;simp only [T.wf] at hw
 split at hd
 case isFalse=>cases hd
 rename_i hkt;simp only [Bool.and_eq_true,keysT,List.all_map,List.all_eq_true,Function.comp] at hkt;obtain ⟨hk1,hk2⟩:=hkt;have hblk:=(h.block hy (b:=(r,.map (T.entries xs) clock)) (by simp [T.blocks])).1;have hu:=Asx hm;have hfind:=Aoh (P:=E.P) hk1 hk2 w;obtain ⟨i,zv,u,z1,z2,z3,z4,z5,z6,z7⟩:=Ag1 (M:=M) hz;have hrun:∀ u',(Instr.lookup t (.map (some r)) kv ok).run E.P w=.ok u' w↔(if ok then Value.tuple #[(match (Ack kv xs 0).map fun x=>(x.1,x.2.2) with | some (_,v)=>v | none=>zv),.bool (Ack kv xs 0).isSome] else (match (Ack kv xs 0).map fun x=>(x.1,x.2.2) with | some (_,v)=>v | none=>zv))=u':=by
  intro u';unfold Instr.lookup;simp only [Sem.run_bind,run_underlying hu,Result.andThen_ok,Ahx hblk,Sem.run_pure,Ait hk1,hfind];cases hf:Ack kv xs 0 with
  | none=>simp [Aj7 z1 z2]
  | some q=>simp
 rw [Aqj kv xs 0] at hd;cases hf:Ack kv xs 0 with
 | none=>
  rw [hf] at hd hrun;simp only [Option.map_none] at hd
  split at hd
  ·cases hd
  simp only [zJ] at hd;subst hd;have:=Auj h z5 z6 z7 ok false dst hdst;rw [z3,z4] at this;refine ⟨_,(hrun _).2 rfl,?_⟩;simpa using this
 | some q=>
  obtain ⟨j,d0,v0⟩:=q;obtain ⟨x0,_,hx1,hx2,hx3,_⟩:=Ami hf;obtain ⟨_,hwv⟩:=hw x0 (List.mem_of_getElem? hx1);rw [hx2] at hwv;obtain ⟨tt,t1,t2,t3,t4,t5⟩:=Bbf hwv;rw [hf] at hd hrun;simp only [Option.map_some,zJ] at hd;subst hd;have:=Auj h t3 t4 t5 ok true dst hdst;rw [t1,t2] at this;refine ⟨_,(hrun _).2 rfl,?_⟩;simpa using this
theorem Adz {M:Mem} {G:FT} (h:Inv n R M F G H a w) {c c':D} {u:Value} (h2:L1 M G c u) (hs:snap1 F c=some c') (hf:c'.flat=true):c=c'/\∃ x,c=.lit x:=by
 ·cases c with
  | lit x=>simp only [snap1,D.freeze,zJ] at hs;exact ⟨hs,x,rfl⟩
  | sl es=>simp only [snap1,D.freeze,zJ] at hs;subst hs;simp [D.flat] at hf
  | ref es=>simp only [snap1,D.freeze,zJ] at hs;subst hs;simp [D.flat] at hf
  | fn f cs=>
   simp only [snap1,D.freeze,Option.map_eq_some_iff] at hs;obtain ⟨_,_,rfl⟩:=hs;simp [D.flat] at hf
  | alias s ps=>
   obtain ⟨x,hx,hn,_⟩:=h2;simp only [snap1,freezeAt,h.getAt,hx,Option.map_some] at hs;have ht:=h.node_tidy hx;cases x with
   | leaf d v=>cases d<;>simp [T.node] at hn<;>simp only [T.erase,D.freeze,zJ] at hs<;>subst hs<;>simp [D.flat] at hf
   | own g cap e sp es=>simp only [T.erase,D.freeze,Option.map_eq_some_iff] at hs;obtain ⟨_,_,rfl⟩:=hs;simp [D.flat] at hf
   | nil=>simp only [T.erase,D.freeze,Option.map_eq_some_iff] at hs;obtain ⟨_,_,rfl⟩:=hs;simp [D.flat] at hf
   | box g e cs=>simp only [T.erase,D.freeze,Option.map_eq_some_iff] at hs;obtain ⟨_,_,rfl⟩:=hs;simp [D.flat] at hf
   | map=>simp [T.erase,D.freeze] at hs
   | bld=>simp [T.erase,D.freeze] at hs
   | agg=>simp [T.node] at hn
   | tup=>simp [T.node] at hn
  | sub s ps off len=>
   simp only [snap1] at hs
   split at hs
   ·split at hs
    ·simp only [zJ] at hs;subst hs;simp [D.flat] at hf
    ·cases hs
   ·cases hs
  | place s ps i o=>
   simp only [snap1] at hs
   split at hs
   ·simp only [Option.map_eq_some_iff] at hs;obtain ⟨_,_,rfl⟩:=hs;simp [D.flat] at hf
   ·split at hs
    ·simp only [zJ] at hs;subst hs;simp [D.flat] at hf
    ·cases hs
   ·cases hs
  | undef=>simp [snap1,D.freeze] at hs
  | own=>simp [L1,RI] at h2
  | box=>simp [L1,RI] at h2
  | map=>simp [L1,RI] at h2
  | bld=>simp [L1,RI] at h2
  | agg=>simp [L1,RI] at h2
  | tup=>simp [L1,RI] at h2
theorem Az6 {M:Mem} {G:FT} (h:Inv n R M F G H a w) {c c':D} {u:Value} (hc:VC M G c u) (hs:snap1 F c=some c') (hf:c'.flat=true):c=c'/\∃ x,c=.lit x:=by
 obtain ⟨h1,h2 | ⟨rfl,rfl⟩⟩:=hc
 ·exact Adz h h2 hs hf
 ·simp only [snap1,D.freeze,D.freezeEs,Option.map_some,zJ] at hs;subst hs;simp [D.flat] at hf
theorem Aq2 {M:Mem} {G:FT} (h:Inv n R M F G H a w):∀ {cs cs':List D} {us:List Value},All2 (VC M G) cs us->snaps1 F cs=some cs'->D.flatCs cs'=true->cs=cs'/\RCs M cs us
 | _,_,_,.nil,hs,_=>by simp only [snaps1,zJ] at hs;subst hs;exact ⟨rfl,by simp [RCs]⟩
 | _,_,_,@All2.cons _ _ _ c _ cs _ p q,hs,hf=>by
  simp only [snaps1] at hs
  split at hs
  ·rename_i c' cs' h1 h2;simp only [zJ] at hs;subst hs;simp only [D.flatCs,Bool.and_eq_true] at hf;obtain ⟨e1,x,hx⟩:=Az6 h p h1 hf.1;obtain ⟨e2,h4⟩:=Aq2 h q h2 hf.2;refine ⟨by rw [← e1,← e2],?_⟩;simp only [RCs];refine ⟨_,_,rfl,?_,h4⟩;subst hx;obtain ⟨_,k | ⟨k,_⟩⟩:=p
   ·exact k
   ·cases k
  ·cases hs
theorem Az7 (h:Inv n R M F G H a w) {d d':D} {v:Value} (hv:VOK M G d v) (hs:snapD F d=some d') (hf:d'.flat=true):T.wfV M d' v:=by
 cases d with
 | agg cs=>
  obtain ⟨vs,rfl,h2⟩:=hv;simp only [snapD,Option.map_eq_some_iff] at hs;obtain ⟨cs',hs,rfl⟩:=hs;simp only [D.flat] at hf;obtain ⟨rfl,hr⟩:=Aq2 h h2 hs hf;exact ⟨vs,rfl,hr⟩
 | fn f cs=>
  simp only [snapD,Option.map_eq_some_iff] at hs;obtain ⟨cs',hs,rfl⟩:=hs;simp [D.flat] at hf
 | own es=>
  cases es with
  | nil=>simp only [snapD,snap1,D.freeze,D.freezeEs,Option.map_some,zJ] at hs;subst hs;simp [D.flat] at hf
  | cons=>simp [VOK,LOK,L1,RI] at hv
 | lit x=>
  simp only [snapD,snap1,D.freeze,zJ] at hs;subst hs;exact hv
 | undef=>obtain ⟨_,x,hx⟩:=Adz h (c:=.undef) (u:=v) hv hs hf;cases hx
 | sl es=>obtain ⟨_,x,hx⟩:=Adz h (c:=.sl es) (u:=v) hv hs hf;cases hx
 | box es=>obtain ⟨_,x,hx⟩:=Adz h (c:=.box es) (u:=v) hv hs hf;cases hx
 | ref es=>obtain ⟨_,x,hx⟩:=Adz h (c:=.ref es) (u:=v) hv hs hf;cases hx
 | map es=>obtain ⟨_,x,hx⟩:=Adz h (c:=.map es) (u:=v) hv hs hf;cases hx
 | bld t0 e0 l0=>obtain ⟨_,x,hx⟩:=Adz h (c:=.bld t0 e0 l0) (u:=v) hv hs hf;cases hx
 | tup es=>obtain ⟨_,x,hx⟩:=Adz h (c:=.tup es) (u:=v) hv hs hf;cases hx
 | alias s ps=>obtain ⟨_,x,hx⟩:=Adz h (c:=.alias s ps) (u:=v) hv hs hf;cases hx
 | sub s ps i k=>obtain ⟨_,x,hx⟩:=Adz h (c:=.sub s ps i k) (u:=v) hv hs hf;cases hx
 | place s ps i k=>obtain ⟨_,x,hx⟩:=Adz h (c:=.place s ps i k) (u:=v) hv hs hf;cases hx
theorem BlkOK.setObj {M:Mem} {w:World} {B:Blks} {g:Nat} {o o':Obj} (h:BlkOK M w ((g,o)::B)):BlkOK M { w with heap:=w.heap.setIfInBounds g o' } ((g,o')::B) where
 nodup:=by simpa using h.nodup
 heap x hx:=by
  have hg:=h.heap (g,o) List.mem_cons_self;have hlt:=(Array.getElem?_eq_some_iff.1 hg).1;rcases List.mem_cons.1 hx with rfl | hx
  ·simp only;rw [Array.getElem?_setIfInBounds];simp only [if_true];rw [if_pos hlt]
  ·have hne:g≠x.1:=by
    intro he;have:=h.nodup;simp only [List.map_cons,List.nodup_cons,List.mem_map,not_exists,not_and] at this;exact this.1 x hx he.symm
   simp only;rw [Array.getElem?_setIfInBounds,if_neg hne];exact h.heap x (List.mem_cons_of_mem _ hx)
 apart x hx:=by
  rcases List.mem_cons.1 hx with rfl | hx
  ·exact h.apart (g,o) List.mem_cons_self
  ·exact h.apart x (List.mem_cons_of_mem _ hx)
theorem Aar.setObj {M:Mem} {w:World} (h:Aar M w) {g:Nat} (hg:M g=none) (o:Obj):Aar M { w with heap:=w.heap.setIfInBounds g o }:=fun k ob hk=>by
 have:g≠k:=by rintro rfl;rw [hg] at hk;cases hk
 simp only;rw [Array.getElem?_setIfInBounds,if_neg this];exact h k ob hk
theorem Evo.setObj {M M1:Mem} {B B1:List Nat} {w w1:World} (e:Evo M B w M1 B1 w1) {g:Nat} (hg:g∈B1) (o:Obj):Evo M B w M1 B1 { w1 with heap:=w1.heap.setIfInBounds g o } where
 os:=e.os
 tape:=e.tape
 output:=e.output
 size:=by simpa using e.size
 out k hk hB:=by
  have:g≠k:=by
   rintro rfl;rcases e.own g hg with h | h
   ·exact hB h
   ·omega
  simp only;rw [Array.getElem?_setIfInBounds,if_neg this];exact e.out k hk hB
 memle:=e.memle
 memnew:=e.memnew
 own:=e.own
theorem Avt (xs:List (Value×Nat×D×Value)) (j:Nat) (x:Value×Nat×D×Value) (y:Value×Nat×D×Value) (hj:xs[j]? = some x) (hy:y.1=x.1) (hb:y.2.1=x.2.1) :
  T.entries (xs.set j y)=(T.entries xs).modify j fun e=>{ e with key:=x.1,val:=y.2.2.2 }:=by
 apply Array.ext';apply List.ext_getElem?;intro k;simp only [T.entries,Array.toList_modify,List.getElem?_map,List.getElem?_modify,List.getElem?_set];by_cases hk:j=k
 ·subst hk;have:=(List.getElem?_eq_some_iff.1 hj).1;have hx:=(List.getElem?_eq_some_iff.1 hj).2;simp [this,hx,hy,hb]
 ·simp [hk]
theorem Amm {E:Env} (h:Inv n R M F G [] a w) {t:Nat} {m k v:Operand} (hm:Fits n m) (hk:Fits n k) (hv:Fits n v) (hu:mapUpdateC E F t m k v=some F') :
  ∃ w' G',(Instr.mapUpdate t (a.eval m) (a.eval k) (a.eval v)).run E.P w=.ok () w'/\Inv n R M F' G' [] a w'/\Evo M (keys (Aa0 G)) w M (keys (Aa0 G')) w':=by
 unfold mapUpdateC at hu
 split at hu
 case h_2=>cases hu
 rename_i kt e s ps kd d hmt hom hok hov;have vm:=h.opd hm hom;have vk:=h.opd hk hok;have vv:=h.opd hv hov
 split at hu
 case h_2=>cases hu
 rename_i es kv d' hg hkv hsn;have hkk:=Auo vk hkv;subst hkk;obtain ⟨y,hy,hyn,hye⟩:=vm;rw [h.getAt,hy] at hg;simp only [Option.map_some,zJ] at hg;obtain ⟨r,clock,xs,rfl,rfl⟩:=Amg (h.node_tidy hy) hg;have hw:=h.node_wf hy hyn;simp only [T.wf] at hw
 split at hu
 case isFalse=>cases hu
 rename_i hc;simp only [Bool.and_eq_true,keysT,List.all_map,List.all_eq_true,Function.comp] at hc;obtain ⟨⟨hfl,hk1⟩,hk2⟩:=hc;have hwv:=Az7 h vv hsn hfl;have hblk:=(h.block hy (b:=(r,.map (T.entries xs) clock)) (by simp [T.blocks])).1;have hut:=Asx hmt;have hfind:=Aoh (P:=E.P) hk1 hk2 w;have core:∀ (xs':List (Value×Nat×D×Value)) (clock':Nat),(xs'.map fun x=>(x.1,x.2.2.1))=upd (a.eval k) d' (xs.map fun x=>(x.1,x.2.2.1))->(∀ x∈xs',T.plainKey x.1=true/\T.wfV M x.2.2.1 x.2.2.2) ->
   ∃ G',Inv n R M F' G' [] a { w with heap:=w.heap.setIfInBounds r (.map (T.entries xs') clock') }/\Evo M (keys (Aa0 G)) w M (keys (Aa0 G')) { w with heap:=w.heap.setIfInBounds r (.map (T.entries xs') clock') }:=by
  intro xs' clock' hx' hw';obtain ⟨rr,p1,p2⟩:=Aeh hy
  let y':T:=.map r clock' xs'
  obtain ⟨t',q1,q2,q3⟩:=p2 y' (by simp [y',T.val]);have hperm0:((r,Obj.map (T.entries xs) clock)::rr).Perm (Aa0 G++[]):=by
   rw [List.append_nil];refine List.Perm.trans ?_ p1;simp [T.blocks]
  have hB0:=h.blk.perm hperm0.symm;have hgn:M r=none:=hB0.apart _ List.mem_cons_self;have hB1:=hB0.setObj (o':=.map (T.entries xs') clock');have hperm1:((r,Obj.map (T.entries xs') clock')::rr).Perm (Aa0 (Aa7 G s t')++[]):=by
   rw [List.append_nil];refine List.Perm.trans ?_ q3;simp [y',T.blocks]
  have hkeeps:Adi G (Aa7 G s t') Ae2:=by
   refine Ae9.keeps (fun s' p z hz hzn=>?_) _;by_cases hss:s'=s
   ·subst hss;rw [Abr];by_cases hp:pre ps p=true
    ·obtain ⟨q,rfl⟩:=(Ag8 ps p).1 hp;rw [T.getP_setP_below ps hy q1 q];rw [T.getP_below ps hy] at hz;cases q with
     | nil=>
      simp only [T.getP,zJ] at hz ⊢;subst hz;exact ⟨y',rfl,clock',xs',rfl⟩
     | cons q0 q=>obtain ⟨q1',q2'⟩:=q0;simp [T.getP,T.elem] at hz
    ·exact T.getP_setP_other ps hy q1 p z (by simpa using hp) hz hzn
   ·rw [Aaq G t' hss];exact ⟨z,hz,T.like_refl hzn⟩
  obtain ⟨F1,k1,k2⟩:=h.path (Mem.le_refl M) q1 q2 Ae2 hkeeps (show y'.tidy by simp [y',T.tidy]) (show T.wf M y' by simp only [y',T.wf];exact hw') (Aaz hy hyn) (hB1.perm hperm1) (h.mem.setObj hgn _);have he:y'.erase=.map (upd (a.eval k) d' (xs.map fun x=>(x.1,x.2.2.1))):=by simp only [y',T.erase,hx']
  rw [he] at k1;rw [k1] at hu;cases hu;rw [Aij,Aik] at k2;refine ⟨_,k2,?_⟩;have hrB:r∈keys (Aa0 G):=by
   have:=(hperm0.map Prod.fst).mem_iff.1 (List.mem_map.2 ⟨_,List.mem_cons_self,rfl⟩:r∈_);simpa [keys] using this
  refine ((Evo.refl M (keys (Aa0 G)) w).setObj hrB _).weaken fun g hg=>?_;have h1:g∈(Aa0 (Aa7 G s t')++[]).map Prod.fst:=by simpa [keys] using hg
  have h2:=(hperm1.map Prod.fst).mem_iff.2 h1;have h3:g∈((r,Obj.map (T.entries xs) clock)::rr).map Prod.fst:=by simpa using h2
  have h4:=(hperm0.map Prod.fst).mem_iff.1 h3;simpa [keys] using h4
 simp only [T.val] at hye;have hset:∀ o,(setObj r o).run E.P w=.ok () { w with heap:=w.heap.setIfInBounds r o }:=fun o=>by simp [setObj,Sem.run,hblk]
 rw [hye];cases hf:Ack (a.eval k) xs 0 with
 | none=>
  rw [hf] at hfind;obtain ⟨G',c1,c2⟩:=core (xs++[(a.eval k,clock,d',a.eval v)]) (clock+1) (by rw [Aq0 hf];simp) (by
   intro x hx;rcases List.mem_append.1 hx with hx | hx
   ·exact hw x hx
   ·simp only [List.mem_singleton] at hx;subst hx;exact ⟨Axo hk1,hwv⟩)
  refine ⟨_,G',?_,c1,c2⟩;unfold Instr.mapUpdate;simp only [Sem.run_bind,run_underlying hut,Result.andThen_ok,Ahx hblk,Ait hk1,hfind,Option.map_none,hset];congr 4;apply Array.ext';simp [T.entries]
 | some q=>
  obtain ⟨j,d0,v0⟩:=q;obtain ⟨x0,_,hx1,hx2,hx3,hx4⟩:=Ami hf;simp only [Nat.sub_zero] at hx1 hx4;rw [hf] at hfind;have hkeq:a.eval k=x0.1:=Azc hk1 (hk2 x0 (List.mem_of_getElem? hx1)) hx3;obtain ⟨G',c1,c2⟩:=core (xs.set j (x0.1,x0.2.1,d',a.eval v)) clock (by rw [hx4 d'];simp [List.map_set]) (by
   intro x hx;rcases List.mem_or_eq_of_mem_set hx with hx | rfl
   ·exact hw x hx
   ·exact ⟨(hw x0 (List.mem_of_getElem? hx1)).1,hwv⟩)
  refine ⟨_,G',?_,c1,c2⟩;have hent:(T.entries xs)[j]? = some { key:=x0.1,val:=x0.2.2.2,born:=x0.2.1 }:=by simp [T.entries,hx1]
  have hsb:=Av5 hk1;unfold Instr.mapUpdate;simp only [Sem.run_bind,run_underlying hut,Result.andThen_ok,Ahx hblk,Ait hk1,hfind,Option.map_some,Instr.keyThatStays,hent,Option.getD_some,← hkeq,hsb,if_true,Sem.run_pure,hset];congr 4;rw [hkeq];exact (Avt xs j x0 (x0.1,x0.2.1,d',a.eval v) hx1 rfl rfl).symm
theorem Axt {P:Program} (h:Inv n R M F G [] a w) (t:Nat) (dst:Option Nat) (hd:∀ d,dst=some d->d<n) :
  ∃ v w',(Instr.makeMap t none).run P w=.ok v w'/\Post n R M (keys (Aa0 G)) w (fin F dst (.map [])) (a.put dst v) w':=by
 have h1:=h.alloc (.map #[] 0);have hb:(T.map w.heap.size 0 []).blocks=[(w.heap.size,.map #[] 0)]:=by simp [T.blocks,T.entries]
 have:=Ace (M:=M) (w:=w) (B:=keys (Aa0 G)) (t:=.map w.heap.size 0 []) (by rw [hb];exact h1) (by simp [T.tidy]) (by simp [Aao,T.wf]) dst hd (by
  have e:=(Evo.refl M (keys (Aa0 G)) w).alloc (.map #[] 0);refine e.weaken fun g hg=>?_;rw [hb] at hg;simp only [keys,List.append_nil,List.map_append,List.map_cons,List.map_nil,List.mem_append,List.mem_singleton] at hg ⊢;rcases hg with hg | hg
  ·exact List.mem_cons_of_mem _ hg
  ·rw [hg];exact List.mem_cons_self)
 refine ⟨_,_,?_,this⟩;simp only [Instr.makeMap,Sem.run_bind,Sem.run_pure,Result.andThen_ok,run_newObj,T.val];rfl
end
end Go.Own
namespace Go.Own
open D
section
variable {n:Nat} {R:Nat->Value} {M:Mem} {F F':Fr} {G:FT} {H:Blks} {a:Act} {w:World}
def Mem.add (M:Mem) (g:Nat) (o:Obj):Mem:=fun k=>if k=g then some o else M k
theorem Mem.le_add {M:Mem} {w:World} (hm:Aar M w) (o:Obj):M.le (M.add w.heap.size o):=fun g ob hg=>by
 have:=hm.lt hg;simp only [Mem.add];rw [if_neg (by omega)];exact hg
theorem Aar.add {M:Mem} {w:World} (hm:Aar M w) (o:Obj):Aar (M.add w.heap.size o) (w.alloc o):=fun g ob hg=>by
 simp only [Mem.add] at hg
 split at hg
 ·rename_i h;subst h;cases hg;exact heap_alloc_new w o
 ·exact hm.alloc o g ob hg
theorem BlkOK.add {M:Mem} {w:World} {B:Blks} (h:BlkOK M w B) (o:Obj):BlkOK (M.add w.heap.size o) (w.alloc o) B where
 nodup:=h.nodup
 heap x hx:=by
  have:=h.lt hx;rw [heap_alloc_old w o this];exact h.heap x hx
 apart x hx:=by
  have:=h.lt hx;simp only [Mem.add];rw [if_neg (by omega)];exact h.apart x hx
theorem Evo.add {M M1:Mem} {B B1:List Nat} {w w1:World} (e:Evo M B w M1 B1 w1) (hm:Aar M1 w1) (o:Obj):Evo M B w (M1.add w1.heap.size o) B1 (w1.alloc o) where
 os:=e.os
 tape:=e.tape
 output:=e.output
 size:=by simp;exact Nat.le_succ_of_le e.size
 out k hk hB:=by rw [heap_alloc_old w1 o (Nat.lt_of_lt_of_le hk e.size)];exact e.out k hk hB
 memle:=Mem.le_trans e.memle (Mem.le_add hm o)
 memnew g ob hg:=by
  simp only [Mem.add] at hg
  split at hg
  ·rename_i h;subst h;exact .inr (.inr e.size)
  ·exact e.memnew g ob hg
 own:=e.own
theorem Inv.add (h:Inv n R M F G H a w) (o:Obj):Inv n R (M.add w.heap.size o) F G H a (w.alloc o):=
 h.world (Mem.le_add h.mem o) (h.blk.add o) (h.mem.add o)
theorem As2 {M:Mem}:∀ (l:List UInt8),REs M (l.map fun c=>[D.lit (.int .u8 c.toNat)]) (l.map fun c=>Value.int .u8 c.toNat)
 | []=>by simp [REs]
 | c::l=>by
  simp only [List.map_cons,REs];exact ⟨[.int .u8 c.toNat],_,rfl,by simp [RCs,RI,Value.oneCell'],As2 l⟩
theorem Alw:∀ {es:List (List D)} {l:List UInt8},bytesOfD es=some l->∃ ns:List Int,es=ns.map (fun n=>[D.lit (.int .u8 n)])/\l=ns.map fun n=>UInt8.ofNat n.toNat
 | [],l,h=>by simp only [bytesOfD,zJ] at h;subst h;exact ⟨[],rfl,rfl⟩
 | c::es,l,h=>by
  simp only [bytesOfD] at h
  split at h
  ·rename_i b bs h1 h2;simp only [zJ] at h;subst h;obtain ⟨ns,rfl,rfl⟩:=Alw h2;unfold byteOfD at h1
   split at h1
   ·rename_i m
    split at h1
    ·simp only [zJ] at h1;subst h1;exact ⟨m::ns,rfl,rfl⟩
    ·cases h1
   ·cases h1
  ·cases h
theorem Am4:∀ {tss:List (List T)} {ns:List Int} {M:Mem},tss.map (·.map T.erase)=ns.map (fun n=>[D.lit (.int .u8 n)])->T.tidyE tss->T.wfE M tss->T.valsE tss=ns.map (Value.int .u8)
 | [],[],_,_,_,_=>rfl
 | [],_::_,_,h,_,_=>by simp at h
 | _::_,[],_,h,_,_=>by simp at h
 | ts::tss,n::ns,M,h,ht,hw=>by
  simp only [List.map_cons,List.cons.injEq] at h;obtain ⟨h1,h2⟩:=h;have ih:=Am4 h2 ht.2 hw.2
  match ts,h1,ht.1,hw.1 with
  | [t],h1,ht1,hw1=>
   simp only [List.map_cons,List.map_nil,List.cons.injEq,and_true] at h1;have he:=Afr (d:=.lit (.int .u8 n)) h1 rfl (by simp) (by simp);have hr:T.wf M (.leaf (.lit (.int .u8 n)) t.val):=by rw [← he];exact hw1.1
   have:=Ad0 hr (by simp);simp only [RI] at this;simp [T.valsE,T.vals,this.1,ih]
  | [],h1,_,_=>simp at h1
  | _::_::_,h1,_,_=>simp at h1
theorem Bac {a:Addr} {l:List Int} {c:Nat} {w:World} {P:Program} (h:∀ j u,(l.map (Value.int .u8))[j]? = some u->w.cell? (a.add j)=some u) :
  (Conv.bytesToString (.slice (some a) l.length c)).run P w=.ok (.string ⟨(l.map fun n=>UInt8.ofNat n.toNat).toArray⟩) w:=by
 have hl:=run_loadCells_list (P:=P) w a (l.map (Value.int .u8)) h;rw [List.length_map] at hl;rw [run_bytesToString w a _ c l hl];congr 2;have:∀ (ns:List Int) (s:ByteArray),ns.foldl (fun r n=>r.push (UInt8.ofNat n.toNat)) s=⟨s.data++(ns.map fun n=>UInt8.ofNat n.toNat).toArray⟩:=by
  intro ns
  induction ns with
  | nil=>intro s;simp
  | cons n ns ih=>intro s;simp only [List.foldl_cons];rw [ih];simp [ByteArray.push]
 rw [this];have h0:ByteArray.empty.data.toList=[]:=rfl;congr 1;exact Array.ext' (by simp [h0])
theorem Axc {E:Env} (h:Inv n R M F G [] a w) {s t:Nat} {x d:D} {v:Value} (hx:VOK M G x v) (hd:convertD E F s t x=some d) (dst:Option Nat) (hdst:∀ d,dst=some d->d<n) :
  ∃ u w',(convert s t v).run E.P w=.ok u w'/\Post n R M (keys (Aa0 G)) w (fin F dst d) (a.put dst u) w':=by
 unfold convertD at hd
 split at hd
 ·rename_i k k' q m hs ht;simp only [zJ] at hd;subst hd;have e:=Abb hx;subst e;exact ⟨_,w,by simp [convert,run_underlying hs,run_underlying ht,Conv.intToInt],Aac h (Ac1 rfl) dst hdst⟩
 ·rename_i k q m hs ht;simp only [zJ] at hd;subst hd;have e:=Abb hx;subst e;exact ⟨_,w,by simp [convert,run_underlying hs,run_underlying ht,Conv.intToString],Aac h (Ac1 rfl) dst hdst⟩
 ·rename_i b hs ht;simp only [zJ] at hd;subst hd;have e:=Abb hx;subst e;exact ⟨_,w,by simp [convert,run_underlying hs,run_underlying ht],Aac h (Ac1 rfl) dst hdst⟩
 ·rename_i e b hs ht
  split at hd
  ·rename_i he
   split at hd
   case isFalse=>cases hd
   rename_i hb;simp only [zJ] at hd;subst hd;have ev:=Abb hx;subst ev;refine ⟨_,_,run_bytes_of_string w s t e b hs ht he,?_⟩
   let o:Obj:=.cells (bytesRow b (grownCap w b.size 0 e)) e ((bytesRow b (grownCap w b.size 0 e)).size,(bytesRow b (grownCap w b.size 0 e)).size+1)
   have h1:Inv n R (M.add w.heap.size o) F G [] a (w.drew.alloc o):=(h.heapEq (w':=w.drew) rfl).add o;have hv:VOK (M.add w.heap.size o) G (.sl (bytesD b)) (.slice (some ⟨w.heap.size,0,none⟩) b.size (grownCap w b.size 0 e)):=by
    show RI _ _ _;simp only [RI];have hsl:(bytesD b).length=b.size:=by simp [bytesD]
    refine ⟨_,_,_,rfl,hsl.symm,?_,?_,.inr ⟨w.heap.size,0,1,b.data.toList.map fun c=>Value.int .u8 c.toNat,rfl,⟨_,e,_,by simp only [Mem.add,if_true];rfl,?_⟩,by omega,?_,As2 _⟩⟩
    ·exact grownCap_ge w _ _ _
    ·simp [maxLen];omega
    ·intro j u hu;simp only [Nat.zero_add,bytesRow];rw [← hu];have hj:=(List.getElem?_eq_some_iff.1 hu).1;simp at hj;rw [Array.getElem?_append_left (by simp;exact hj)];simp
    ·intro x hx;simp only [bytesD,List.mem_map] at hx;obtain ⟨c,_,rfl⟩:=hx;rfl
   obtain ⟨M2,G2,i2,e2⟩:=Aac h1 hv dst hdst;refine ⟨M2,G2,i2,?_⟩;exact (((Evo.refl M (keys (Aa0 G)) w).heapEq (w2:=w.drew) rfl rfl rfl rfl).add (w1:=w.drew) (h.mem.heapEq rfl) o).trans e2
  ·cases hd
 ·rename_i e hs ht
  split at hd
  ·rename_i es he hes;cases hl:bytesOfD es with
   | none=>simp [hl] at hd
   | some l=>
    simp only [hl,Option.map_some,zJ] at hd;subst hd;obtain ⟨ns,rfl,rfl⟩:=Alw hl;obtain ⟨A,c,tss,rfl,b2,b3,b4,b5,b6⟩:=Aoy h hx hes;refine ⟨_,w,?_,Aac h (Ac1 rfl) dst hdst⟩;rw [run_convert_bytes_string w s t e A _ c hs he ht];have hv:=Am4 b3 b4 b5;cases A with
    | none=>
     rcases b6 with b6 | ⟨g,b,k,b7,_⟩
     ·have:ns=[]:=by simpa using b6
      subst this;simp only [Conv.bytesToString,Sem.run_pure];rfl
     ·cases b7
    | some ad=>
     have hlen:(ns.map fun n=>[D.lit (.int .u8 n)]).length=ns.length:=by simp
     rw [hlen];refine Bac fun j u hu=>?_;rcases b6 with b6 | ⟨g,b,k,b7,_,_,b8⟩
     ·have:ns=[]:=by simpa using b6
      subst this;simp at hu
     ·cases b7;rw [Addr.add_plain];exact b8 j u (by rw [hv];exact hu)
  ·cases hd
 ·cases hd
theorem Asq {f:Int->Int->Int} {x y d:D} {u v:Value} (hx:VOK M G x u) (hy:VOK M G y v) (h:intOf2 f [x,y]=some d):∃ k p q,u=.int k p/\v=.int k q/\d=.lit (.int k (f p q)):=by
 unfold intOf2 at h
 split at h
 ·rename_i heq;simp only [List.cons.injEq,and_true] at heq;obtain ⟨rfl,rfl⟩:=heq
  split at h
  ·rename_i hk;subst hk;simp only [zJ] at h;subst h;exact ⟨_,_,_,Abb hx,Abb hy,rfl⟩
  ·cases h
 ·cases h
theorem Inv.slot_leaf {E:Env} (h:Inv n R M F G H a w) {t:Nat} (ht:t<n) {d:D} (hg:Own.get F t=d) (hv:view t [] d=d):VOK M G d (a.eval (.tmp t)):=by
 have:=h.opd (E:=E) (x:=.tmp t) (d:=d) (fun s hs=>by cases hs;exact ht) (by simp only [Own.opd,hg,hv]);exact this
theorem Aue {t:T} (h:easy1 t.erase=true):t.blocks=[]:=by
 cases t with
 | leaf d v=>rfl
 | _=>simp [T.erase,easy1] at h
theorem Avs {t:T} (h:easyD t.erase=true):t.blocks=[]:=by
 cases t with
 | leaf d v=>rfl
 | agg cs=>
  simp only [T.erase,easyD] at h;simp only [T.blocks]
  induction cs with
  | nil=>rfl
  | cons c cs ih=>
   simp only [T.eraseC,List.all_cons,Bool.and_eq_true] at h;simp only [T.blocksC,Aue h.1,ih h.2,List.append_nil]
 | _=>simp [T.erase,easyD,easy1] at h
theorem Ame:∀ {ts:List T},(T.eraseC ts).all easyD=true->T.blocksC ts=[]
 | [],_=>rfl
 | c::cs,h=>by
  simp only [T.eraseC,List.all_cons,Bool.and_eq_true] at h;simp only [T.blocksC,Avs h.1,Ame h.2,List.append_nil]
theorem Bdi {E:Env} (h:Inv n R M F G [] a w) {x:Operand} (hx:Fits n x) (dst:Option Nat) (hd:∀ d,dst=some d->d<n) (hm:moveC E F dst x=some F'):Post n R M (keys (Aa0 G)) w F' (a.put dst (a.eval x)) w:=by
 have plain:(opd E F x).map (fin F dst)=some F'->Post n R M (keys (Aa0 G)) w F' (a.put dst (a.eval x)) w:=fun hp=>by
  cases ho:opd E F x with
  | none=>simp [ho] at hp
  | some d=>
   simp only [ho,Option.map_some,zJ] at hp;subst hp;exact Aac h (h.opd hx ho) dst hd
 unfold moveC at hm
 split at hm
 ·rename_i t
  split at hm
  ·rename_i ds hg
   split at hm
   ·rename_i hez;simp only [zJ] at hm;subst hm;rw [h.get] at hg;have hne:getT G t≠noT:=by intro hz;rw [hz] at hg;simp [noT,T.erase] at hg
    have hf:=Acl hne;have hev:a.eval (.tmp t)=(getT G t).val:=h.eval (hx t rfl) hf;have htd:=h.tidyG t;have hbl:(getT G t).blocks=[]:=by
     cases ht:getT G t with
     | tup ts=>rw [ht] at hg;simp only [T.erase,D.tup.injEq] at hg;subst hg;exact Ame hez
     | leaf d v=>rfl
     | _=>rw [ht] at hg;simp [T.erase] at hg
    have hok:Aao M G (getT G t):=by
     have:=h.okG t;cases ht:getT G t with
     | tup ts=>rw [ht] at this;exact this
     | leaf d v=>
      rw [ht] at hg htd;simp only [T.erase] at hg;subst hg;simp [T.tidy] at htd
     | _=>rw [ht] at hg;simp [T.erase] at hg
    have:=Ace (M:=M) (w:=w) (B:=keys (Aa0 G)) (t:=getT G t) (by rw [hbl];exact h) htd hok dst hd (by rw [hbl];simpa using Evo.refl M _ w);rw [hg,← hev] at this;exact this
   simp only [zJ] at hm;subst hm;rw [h.get] at hg;have hne:getT G t≠noT:=by intro hz;rw [hz] at hg;simp [noT,T.erase] at hg
   have hf:=Acl hne;obtain ⟨u,G1,b1,b2,b3,b4,b5,b6⟩:=Ahn h (W:=fun u=>u=getT G t) hf rfl;have hev:a.eval (.tmp t)=(getT G t).val:=h.eval (hx t rfl) hf;subst b4;have hok:Aao M G1 (getT G t):=by
    have:=h.okG t;cases ht:getT G t with
    | tup ts=>rw [ht] at this;exact this
    | leaf d v=>
     have htd:=h.tidyG t;rw [ht] at hg htd;simp only [T.erase] at hg;subst hg;simp [T.tidy] at htd
    | _=>rw [ht] at hg;simp [T.erase] at hg
   have:=Ace (M:=M) (w:=w) (B:=keys (Aa0 G)) b5 b3 hok dst hd (Evo.refl' M w fun g hg=>by
    have:=b6 g hg
    simpa [keys] using this)
   rw [hg,← hev] at this;exact this
  ·exact plain hm
 ·exact plain hm
theorem Ak5 {W:T->Prop} {d:D} {v:Value} (ht:Took n R M F' G [] a w W d v) (hW:∀ t,T.tidy t->W t->Giv M t) (dst:Option Nat) (hd:∀ d,dst=some d->d<n):Post n R M (keys (Aa0 G)) w (fin F' dst d) (a.put dst v) w:=by
 obtain ⟨t,G',rfl,rfl,h3,h4,h5,h6⟩:=ht;exact Ace h5 h3 (Abj (hW t h3 h4)) dst hd (Evo.refl' M w fun g hg=>by
  have:=h6 g hg
  simpa [keys] using this)
theorem Ayt {E:Env} {f:Nat} {V:List Nat} (h:Inv n R M F G [] a w) {x:Operand} (hx:Fits n x) (dst:Option Nat) (hd:∀ d,dst=some d->d<n) (hm:assignC E f V F dst x=some F'):Post n R M (keys (Aa0 G)) w F' (a.put dst (a.eval x)) w:=by
 have take:(takeOp E F x).map (fun r=>fin r.2 dst r.1)=some F'->Post n R M (keys (Aa0 G)) w F' (a.put dst (a.eval x)) w:=fun hp=>by
  cases ho:takeOp E F x with
  | none=>simp [ho] at hp
  | some r=>
   obtain ⟨d,F1⟩:=r;simp only [ho,Option.map_some,zJ] at hp;subst hp;exact Ak5 (Af5 h hx ho) (fun _ _ k=>k) dst hd
 unfold assignC at hm
 split at hm
 ·rename_i t;have ht:=hx t rfl
  split at hm
  ·rename_i s ps hg;have hv:VOK M G (.alias s ps) (a.eval (.tmp t)):=h.slot_leaf (E:=E) ht hg rfl
   split at hm
   ·simp only [zJ] at hm;subst hm;exact Aac h hv dst hd
   ·cases ho:takeAt F s ps with
    | none=>simp [ho] at hm
    | some r=>
     obtain ⟨d,F1⟩:=r;simp only [ho,Option.map_some,zJ] at hm;subst hm;exact Ak5 (An5 h hv ho) (fun t _ k=>Aca k.1 k.2) dst hd
  ·rename_i s ps i k hg;have hv:VOK M G (.sub s ps i k) (a.eval (.tmp t)):=h.slot_leaf (E:=E) ht hg rfl
   split at hm
   ·simp only [zJ] at hm;subst hm;exact Aac h hv dst hd
   ·cases ho:takeSub F s ps i k with
    | none=>simp [ho] at hm
    | some r=>
     obtain ⟨d,F1⟩:=r;simp only [ho,Option.map_some,zJ] at hm;subst hm;exact Ak5 (Alr h hv ho) (fun t _ k=>Aca k.1 k.2) dst hd
  ·rename_i s ps i k hg;have hv:VOK M G (.place s ps i k) (a.eval (.tmp t)):=h.slot_leaf (E:=E) ht hg rfl
   split at hm
   ·simp only [zJ] at hm;subst hm;exact Aac h hv dst hd
   ·cases hm
  ·rename_i g cs hg;have hv:VOK M G (.fn g cs) (a.eval (.tmp t)):=h.slot_leaf (E:=E) ht hg rfl;simp only [zJ] at hm;subst hm;exact Aac h hv dst hd
  ·rename_i d _ _ _ _
   split at hm
   ·simp only [zJ] at hm;subst hm;exact Aac h (h.opd (E:=E) hx rfl) dst hd
   ·exact take hm
 ·exact take hm
theorem Ad1 {B:List Nat} {w1:World} {M':Mem} {F1:Fr} {G1:FT} (h:Inv n R M' F1 G1 [] a w1) (dst:Option Nat) (hd:∀ d,dst=some d->d<n)
  (e:Evo M B w M' (keys (Aa0 G1)) w1):Post n R M B w (fin F1 dst (.tup [])) (a.put dst (.tuple #[])) w1:=by
 have hb:(T.tup []).blocks=[]:=by simp [T.blocks,T.blocksC]
 have:=Ace (M:=M) (w:=w) (B:=B) (t:=.tup []) (by rw [hb];exact h) (by simp [T.tidy,T.tidyC]) (by intro c hc;cases hc) dst hd (by rw [hb];simpa using e);simpa [T.erase,T.eraseC,T.val,T.vals] using this
theorem Bao {E:Env} (h:Inv n R M F G [] a w) {t e:Nat} (ht:sliceT E.P t=some e) {s:Nat} {ps:Path} {off len:Nat} {v:Value} (hv:VOK M G (.sub s ps off len) v) {es:List (List D)} (hg:Own.getAt F s ps=some (.own es)) {z:D} (hz:zeroT E.P e=some z)
  (h1:off+len<=es.length) (h2:z.cells.length=sizeT E.P e) (h3:(es.all fun c=>c.length == sizeT E.P e)=true) (h4:0<sizeT E.P e) {F1:Fr} (hs:Own.setAt F s ps (.own (es.take off++List.replicate len z.cells++es.drop (off+len)))=some F1) (dst:Option Nat) (hd:∀ d,dst=some d->d<n) {ty:Nat} {ts:List Nat} :
  ∃ w',(Builtin.clear_ (t::ts).toArray ty #[v]).run E.P w=.ok (.tuple #[]) w'/\Post n R M (keys (Aa0 G)) w (fin (killB F1 s ps) dst (.tup [])) (a.put dst (.tuple #[])) w':=by
 obtain ⟨i,zv,u,i1,i2,rfl,rfl,i5,i6,i7⟩:=Ag1 (M:=M) hz;obtain ⟨c1,c2,c3,c4,c5⟩:=Aci i6 i5;obtain ⟨x,hx,hn,hS⟩:=hv;have hxw:=h.node_wf hx hn;have hxt:=h.node_tidy hx;rw [h.getAt,hx] at hg;simp only [Option.map_some,zJ] at hg;have hul:u.cells.length=sizeT E.P e:=by rw [← h2,← c1];simp
 have hus:u.val.cells.size=sizeT E.P e:=by have:=congrArg List.length c2;simp at this;omega
 obtain ⟨A,m,c,k,es',A',e1,e2,e3,e4,e5,e6,rfl,e8⟩:=hS;have hut:=Ad2 ht;have hrun0:(t::ts).toArray[0]? = some t:=by simp
 rcases Ae5 hxt hg with ⟨g,cap,el,sp,tt,rfl,rfl⟩ | ⟨rfl,rfl⟩
 ·have hkt:∀ e'∈tt,e'.length=sizeT E.P e:=by
   intro e' he;have:=List.all_eq_true.1 h3 (e'.map T.erase) (List.mem_map.2 ⟨e',he,rfl⟩);simpa using this
  simp only [List.length_map] at h1;simp only [T.val,Value.slice.injEq] at e1;obtain ⟨rfl,rfl,rfl⟩:=e1
  let ts':List (List T):=tt.take off++List.replicate len u.cells++tt.drop (off+len)
  let x':T:=.own g cap el sp ts'
  have hlen':ts'.length=tt.length:=by simp [ts'];omega
  have hx'e:x'.erase=.own ((tt.map (·.map T.erase)).take off++List.replicate len u.erase.cells++(tt.map (·.map T.erase)).drop (off+len)):=by
   simp [x',ts',T.erase,T.eraseE_eq,List.map_take,List.map_drop,c1]
  have hvt:=Aat hkt;have hsplit:tt=tt.take off++((tt.drop off).take len++tt.drop (off+len)):=by
   rw [← List.drop_drop,List.take_append_drop,List.take_append_drop]
  have hbl:(T.blocksE ts'++T.blocksE ((tt.drop off).take len)).Perm (T.blocksE tt):=by
   conv=>rhs;rw [hsplit]
   simp only [ts',T.blocksE_append,Afg len (by rw [c5,i7]:T.blocksC u.cells=[]),List.append_nil];rw [List.append_assoc];exact List.Perm.append_left _ List.perm_append_comm
  have hvals:T.valsE ts'++sp=(T.valsE tt++sp).take (off*sizeT E.P e)++(Builtin.zeroCells u.val.cells len).toList++(T.valsE tt++sp).drop (off*sizeT E.P e+len*sizeT E.P e):=by
   have hzc:(Builtin.zeroCells u.val.cells len).toList=T.valsE (List.replicate len u.cells):=by
    rw [Aff,Ad4 _ (by omega),Adq,c2]
   have hb1:off*sizeT E.P e+len*sizeT E.P e<=(T.valsE tt).length:=by
    rw [hvt,← Nat.add_mul];exact Nat.mul_le_mul_right _ h1
   rw [hzc,List.take_append_of_le_length (by omega),List.drop_append_of_le_length hb1];have htk:(T.valsE tt).take (off*sizeT E.P e)=T.valsE (tt.take off):=by
    have hl1:(T.valsE (tt.take off)).length=off*sizeT E.P e:=by
     rw [Aat (fun x hx=>hkt x (List.mem_of_mem_take hx)),List.length_take,Nat.min_eq_left (by omega)]
    conv=>lhs;rw [← List.take_append_drop off tt,T.valsE_append,← hl1,List.take_left]
   rw [htk,← Nat.add_mul,← Ar2 hkt];simp [ts',T.valsE_append]
  obtain ⟨r,p1,p2⟩:=Aeh hx;obtain ⟨t',q1,q2,q3⟩:=p2 x' (by simp [x',T.val,hlen']);have hperm0:((g,Obj.cells (T.valsE tt++sp).toArray el (0,0))::(T.blocksE tt++r)).Perm (Aa0 G++[]):=by
   rw [List.append_nil];refine List.Perm.trans ?_ p1;simp [T.blocks]
  have hB0:=h.blk.perm hperm0.symm;have hgn:M g=none:=hB0.apart _ List.mem_cons_self;have hB1:=hB0.setRow (L':=(T.valsE ts'++sp).toArray);have hperm1:((Aa0 (Aa7 G s t')++[])++T.blocksE ((tt.drop off).take len)).Perm ((g,Obj.cells (T.valsE ts'++sp).toArray el (0,0))::(T.blocksE tt++r)):=by
   rw [List.append_nil];refine (q3.symm.append_right _).trans ?_;simp only [x',T.blocks,List.cons_append];refine List.Perm.cons _ ?_;rw [List.append_assoc];refine (List.Perm.append_left _ List.perm_append_comm).trans ?_;rw [← List.append_assoc];exact hbl.append_right r
  obtain ⟨⟨k',hk'0,hk',hcap⟩,w2,w3,w4,w5⟩:=hxw;have hwf':T.wf M x':=by
   simp only [x',T.wf];have hmem:∀ y∈ts',y∈tt∨y=u.cells:=by
    intro y hy;simp only [ts',List.mem_append] at hy;rcases hy with (hy | hy) | hy
    ·exact .inl (List.mem_of_mem_take hy)
    ·exact .inr (List.eq_of_mem_replicate hy)
    ·exact .inl (List.mem_of_mem_drop hy)
   refine ⟨?_,by rw [hlen'];exact w2,w3,w4,?_⟩
   ·rw [hlen'];by_cases hz:tt.length=0
    ·refine ⟨k',hk'0,fun y hy=>?_,hcap⟩;have:ts'=[]:=List.eq_nil_of_length_eq_zero (by omega);rw [this] at hy;cases hy
    ·refine ⟨sizeT E.P e,h4,fun y hy=>?_,?_⟩
     ·rcases hmem y hy with hy | rfl
      ·exact hkt y hy
      ·exact hul
     ·have:k'=sizeT E.P e:=by
       cases tt with
       | nil=>simp at hz
       | cons a tt=>rw [← hk' a (by simp),hkt a (by simp)]
      rw [← this];exact hcap
   ·rw [T.wfE_iff] at w5 ⊢;intro y hy;rcases hmem y hy with hy | rfl
    ·exact w5 y hy
    ·exact c4
  have htd':x'.tidy:=by
   simp only [x',T.tidy,T.tidyE_iff] at hxt ⊢;intro y hy;simp only [ts',List.mem_append] at hy;rcases hy with (hy | hy) | hy
   ·exact hxt y (List.mem_of_mem_take hy)
   ·rw [List.eq_of_mem_replicate hy];exact c3
   ·exact hxt y (List.mem_of_mem_drop hy)
  obtain ⟨F2,k1,k2⟩:=h.path (Mem.le_refl M) q1 q2 (deadIn s ps) (Alh hx q1 (fun _=>⟨rfl,by simp [x',T.val,hlen']⟩)) htd' hwf' (Aaz hx hn) (hB1.sub_perm hperm1) (h.mem.setRow hgn _);rw [hx'e,hs] at k1;cases k1;have hgB:g∈keys (Aa0 G):=by
   have:=(hperm0.map Prod.fst).mem_iff.1 (List.mem_map.2 ⟨_,List.mem_cons_self,rfl⟩:g∈_);simpa [keys] using this
  have hev:Evo M (keys (Aa0 G)) w M (keys (Aa0 (Aed (deadIn s ps) (Aa7 G s t')))) (w.setRow g (T.valsE ts'++sp).toArray):=by
   rw [Aay];refine ((Evo.refl M (keys (Aa0 G)) w).setRow hgB _).weaken fun y hy=>?_;have a1:y∈((Aa0 (Aa7 G s t')++[])++T.blocksE ((tt.drop off).take len)).map Prod.fst:=by
    rw [List.append_nil,List.map_append];exact List.mem_append_left _ hy
   have a2:=(hperm1.map Prod.fst).mem_iff.1 a1;have a3:y∈((g,Obj.cells (T.valsE tt++sp).toArray el (0,0))::(T.blocksE tt++r)).map Prod.fst:=by simpa using a2
   have a4:=(hperm0.map Prod.fst).mem_iff.1 a3;simpa [keys] using a4
  refine ⟨_,?_,Ad1 k2 dst hd hev⟩;have hbg:w.heap[g]? = some (.cells (T.valsE tt++sp).toArray el (0,0)):=hB0.heap _ List.mem_cons_self;by_cases hl0:len=0
  ·subst hl0;have:T.valsE ts'++sp=T.valsE tt++sp:=by simp [ts']
   rw [this,setRow_self w g _ el (0,0) hbg];cases A'<;>simp [Builtin.clear_,run_underlying hut]
  ·have hA:A'=some ⟨g,off*sizeT E.P e,none⟩:=by
    rcases e8 with e8 | e8
    ·have hkk:k=sizeT E.P e:=by
      simp only [T.erase,T.eraseE_eq,D.own.injEq,reduceCtorEq,or_false] at e2;cases tt with
      | nil=>simp at h1;omega
      | cons a tt=>
       have:=e4 (a.map T.erase) (by rw [← e2];simp);rw [← hkt a (by simp)];simpa using this.symm
     rw [e8,hkk];simp [Addr.add_plain]
    ·omega
   rw [hA];have hzl:(Builtin.zeroCells u.val.cells len).toList.length=len*sizeT E.P e:=by simp [size_zeroCells,hus]
   have hz1:∀ v∈(Builtin.zeroCells u.val.cells len).toList,v.oneCell'=true:=by
    rw [Aff,Ad4 _ (by omega),← c2,← Adq];refine Adf (M:=M) ?_;rw [T.wfE_iff];intro y hy;rw [List.eq_of_mem_replicate hy];exact c4
   have hst:=run_storeCells_at E.P g (off*sizeT E.P e) el (Builtin.zeroCells u.val.cells len).toList 0 _ w hbg (by
    rw [hzl];simp only [List.size_toArray,List.length_append,hvt,Nat.add_zero];rw [← Nat.add_mul];have:(off+len)*sizeT E.P e<=tt.length*sizeT E.P e:=Nat.mul_le_mul_right _ h1
    omega) hz1
   simp only [Nat.add_zero,hzl] at hst;rw [← hvals] at hst;obtain ⟨q,rfl⟩:∃ q,len=q+1:=⟨len-1,by omega⟩
   simp only [Builtin.clear_,hrun0,List.getElem?_toArray,List.getElem?_cons_zero,Sem.run_bind,run_underlying hut,Result.andThen_ok,Aj7 i1 i2,hst,Sem.run_pure]
 ·simp only [List.length_nil,Nat.le_zero_eq] at h1;obtain ⟨rfl,rfl⟩:off=0/\len=0:=by omega
  obtain ⟨r,p1,p2⟩:=Aeh hx;obtain ⟨t',q1,q2,q3⟩:=p2 .nil rfl;have hblk:BlkOK M w (Aa0 (Aa7 G s t')++[]):=by
   refine h.blk.perm ?_;rw [List.append_nil,List.append_nil];exact p1.symm.trans q3
  obtain ⟨F2,k1,k2⟩:=h.path (Mem.le_refl M) q1 q2 (deadIn s ps) (Alh hx q1 (fun _=>⟨rfl,rfl⟩)) hxt hxw (Aaz hx hn) hblk h.mem;simp only [T.erase] at k1;simp only [List.take_nil,List.replicate_zero,List.drop_nil,List.append_nil] at hs;rw [hs] at k1;cases k1;refine ⟨w,by cases A'<;>simp [Builtin.clear_,run_underlying hut],Ad1 k2 dst hd ?_⟩;rw [Aay];refine Evo.refl' M w fun y hy=>?_;exact ((p1.symm.trans q3).map Prod.fst).mem_iff.2 hy
end
end Go.Own
namespace Go.Own
open D
def Has (M:Mem) (B:Blks):Prop:=∀ b∈B,M b.1=some b.2
theorem Has.left {M:Mem} {A B:Blks} (h:Has M (A++B)):Has M A:=fun b hb=>h b (List.mem_append_left _ hb)
theorem Has.right {M:Mem} {A B:Blks} (h:Has M (A++B)):Has M B:=fun b hb=>h b (List.mem_append_right _ hb)
theorem Has.mono {M M':Mem} {A:Blks} (hM:M.le M') (h:Has M A):Has M' A:=fun b hb=>hM _ _ (h b hb)
mutual
theorem Ag6 {M:Mem}:∀ (d:D) (v:Value),RI M d v->d.freeze=some d
 | .lit _,_,_=>by simp [D.freeze]
 | .sl _,_,_=>by simp [D.freeze]
 | .ref _,_,_=>by simp [D.freeze]
 | .fn f cs,v,h=>by
  simp only [RI] at h;obtain ⟨vs,_,h2⟩:=h;simp [D.freeze,freeze_RCs cs vs h2]
 | .undef,_,h=>by simp [RI] at h
 | .own _,_,h=>by simp [RI] at h
 | .agg _,_,h=>by simp [RI] at h
 | .box _,_,h=>by simp [RI] at h
 | .map _,_,h=>by simp [RI] at h
 | .bld ..,_,h=>by simp [RI] at h
 | .tup _,_,h=>by simp [RI] at h
 | .alias ..,_,h=>by simp [RI] at h
 | .sub ..,_,h=>by simp [RI] at h
 | .place ..,_,h=>by simp [RI] at h
theorem freeze_RCs {M:Mem}:∀ (cs:List D) (vs:List Value),RCs M cs vs->D.freezeCs cs=some cs
 | [],_,_=>by simp [D.freezeCs]
 | c::cs,vs,h=>by
  simp only [RCs] at h;obtain ⟨v,vs',_,h1,h2⟩:=h;simp [D.freezeCs,Ag6 c v h1,freeze_RCs cs vs' h2]
end
theorem freezeCs_len:∀ {cs ds:List D},D.freezeCs cs=some ds->ds.length=cs.length
 | [],ds,h=>by simp only [D.freezeCs,zJ] at h;subst h;rfl
 | c::cs,ds,h=>by
  simp only [D.freezeCs] at h
  split at h
  ·rename_i c' cs' h1 h2;simp only [zJ] at h;subst h;simp [freezeCs_len h2]
  ·cases h
theorem freezeEs_lens:∀ {es ds:List (List D)},D.freezeEs es=some ds->ds.map List.length=es.map List.length
 | [],ds,h=>by simp only [D.freezeEs,zJ] at h;subst h;rfl
 | c::cs,ds,h=>by
  simp only [D.freezeEs] at h
  split at h
  ·rename_i c' cs' h1 h2;simp only [zJ] at h;subst h;simp [freezeCs_len h1,freezeEs_lens h2]
  ·cases h
theorem widths' {es es':List (List D)} (h:es'.map List.length=es.map List.length) {k:Nat} (hk:∀ e∈es,e.length=k):∀ e∈es',e.length=k:=by
 intro e he;have:e.length∈es'.map List.length:=List.mem_map.2 ⟨e,he,rfl⟩;rw [h] at this;obtain ⟨z,hz,hzl⟩:=List.mem_map.1 this;rw [← hzl];exact hk z hz
mutual
theorem freeze_ok {M M':Mem} (hM:M.le M'):∀ (t:T),t.tidy->T.wf M t->Has M' t.blocks->∀ d',t.erase.freeze=some d'->RI M' d' t.val
 | .leaf d v,ht,hw,_,d',h=>by
  rcases hw with ⟨rfl,_⟩ | hw
  ·simp [T.erase,D.freeze] at h
  ·simp only [T.erase,Ag6 d v hw,zJ] at h;subst h;exact RI.mono hM _ _ hw
 | .own g cap e sp es,ht,hw,hb,d',h=>by
  simp only [T.erase,D.freeze,Option.map_eq_some_iff] at h;obtain ⟨es',h,rfl⟩:=h;obtain ⟨⟨k,hk0,hk,hcap⟩,w2,w3,w4,w5⟩:=hw;simp only [T.blocks] at hb;have hR:=freezeE_ok hM es ht w5 (fun b hb'=>hb b (List.mem_cons_of_mem _ hb')) es' h;have hl:=freezeEs_lens h;have hlen:es'.length=es.length:=by have:=congrArg List.length hl;simpa using this
  simp only [RI,T.val];refine ⟨_,_,_,rfl,hlen.symm,w2.1,by omega,.inr ⟨g,0,k,T.valsE es,rfl,⟨_,e,_,hb _ List.mem_cons_self,fun j u hu=>?_⟩,hk0,?_,hR⟩⟩
  ·simp only [Nat.zero_add,List.getElem?_toArray];rw [List.getElem?_append_left (List.getElem?_eq_some_iff.1 hu).1];exact hu
  ·refine widths' hl ?_;intro x hx;rw [T.eraseE_eq] at hx;obtain ⟨y,hy,rfl⟩:=List.mem_map.1 hx;simpa using hk y hy
 | .nil,_,_,_,d',h=>by
  simp only [T.erase,D.freeze,D.freezeEs,Option.map_some,zJ] at h;subst h;simp only [RI,T.val];exact ⟨none,0,0,rfl,rfl,Nat.le_refl _,by simp [maxLen],.inl trivial⟩
 | .agg cs,_,hw,_,_,_=>by simp [T.wf] at hw
 | .box g e cs,ht,hw,hb,d',h=>by
  simp only [T.erase,D.freeze,Option.map_eq_some_iff] at h;obtain ⟨cs',h,rfl⟩:=h;simp only [T.blocks] at hb;have hR:=freezeC_ok hM cs ht hw (fun b hb'=>hb b (List.mem_cons_of_mem _ hb')) cs' h;simp only [RI,T.val];exact ⟨g,0,T.vals cs,rfl,⟨_,e,_,hb _ List.mem_cons_self,fun j u hu=>by simpa using hu⟩,hR⟩
 | .map r c es,_,_,_,d',h=>by simp [T.erase,D.freeze] at h
 | .bld v0 bs0 t0 e0 l0,_,_,_,d',h=>by simp [T.erase,D.freeze] at h
 | .tup ds,_,hw,_,_,_=>by simp [T.wf] at hw
theorem freezeC_ok {M M':Mem} (hM:M.le M'):∀ (ts:List T),T.tidyC ts->T.wfC M ts->Has M' (T.blocksC ts)->∀ ds,D.freezeCs (T.eraseC ts)=some ds->RCs M' ds (T.vals ts)
 | [],_,_,_,ds,h=>by
  simp only [T.eraseC,D.freezeCs,zJ] at h;subst h;simp [RCs,T.vals]
 | t::ts,ht,hw,hb,ds,h=>by
  simp only [T.eraseC,D.freezeCs] at h
  split at h
  ·rename_i c' cs' h1 h2;simp only [zJ] at h;subst h;simp only [T.blocksC] at hb;simp only [RCs,T.vals];exact ⟨_,_,rfl,freeze_ok hM t ht.1 hw.1 hb.left c' h1,freezeC_ok hM ts ht.2 hw.2 hb.right cs' h2⟩
  ·cases h
theorem freezeE_ok {M M':Mem} (hM:M.le M'):∀ (es:List (List T)),T.tidyE es->T.wfE M es->Has M' (T.blocksE es)->∀ ds,D.freezeEs (T.eraseE es)=some ds->REs M' ds (T.valsE es)
 | [],_,_,_,ds,h=>by
  simp only [T.eraseE,D.freezeEs,zJ] at h;subst h;simp [REs,T.valsE]
 | t::ts,ht,hw,hb,ds,h=>by
  simp only [T.eraseE,D.freezeEs] at h
  split at h
  ·rename_i c' cs' h1 h2;simp only [zJ] at h;subst h;simp only [T.blocksE] at hb;simp only [REs,T.valsE];exact ⟨_,_,rfl,freezeC_ok hM t ht.1 hw.1 hb.left c' h1,freezeE_ok hM ts ht.2 hw.2 hb.right cs' h2⟩
  ·cases h
end
def D.at1:D->Option (Nat×Path)
 | .alias s ps=>some (s,ps)
 | .sub s ps _ _=>some (s,ps)
 | .place s ps _ _=>some (s,ps)
 | _=>none
def D.ats:D->List (Nat×Path)
 | .agg cs=>cs.filterMap D.at1
 | .fn _ cs=>cs.filterMap D.at1
 | d=>d.at1.toList
section
variable {n:Nat} {R:Nat->Value} {M:Mem} {F F':Fr} {G:FT} {H:Blks} {a:Act} {w:World}
theorem RI_ref_drop {M:Mem} {cs:List D} {g b:Nat} (h:RI M (.ref cs) (.pointer (some ⟨g,b,none⟩))) (o:Nat):RI M (.ref (cs.drop o)) (.pointer (some ⟨g,b+o,none⟩)):=by
 simp only [RI] at h ⊢;obtain ⟨g',b',vs,h1,h2,h3⟩:=h;simp only [Value.pointer.injEq,zJ,Addr.mk.injEq,and_true] at h1;obtain ⟨rfl,rfl⟩:=h1;refine ⟨g,b+o,vs.drop o,rfl,?_,h3.drop o⟩;have:=h2.part o (vs.drop o).length
 rwa [List.take_length] at this
theorem snap1_ok (h:Inv n R M F G H a w) {Mc:Mem} (hM:M.le Mc) {d d':D} {v:Value} (hL:L1 M G d v) (hs:snap1 F d=some d') (hb:∀ p,d.at1=some p->∀ x,(getT G p.1).getP p.2=some x->Has Mc x.blocks):RI Mc d' v:=by
 cases d with
 | alias s ps=>
  obtain ⟨x,hx,hn,rfl⟩:=hL;simp only [snap1,freezeAt,h.getAt,hx,Option.map_some] at hs;exact freeze_ok hM x (h.node_tidy hx) (h.node_wf hx hn) (hb _ rfl x hx) d' hs
 | sub s ps off len=>
  obtain ⟨x,hx,hn,hS⟩:=hL;have hf:=freeze_ok hM x (h.node_tidy hx) (h.node_wf hx hn) (hb _ rfl x hx);simp only [snap1,freezeAt,h.getAt,hx,Option.map_some] at hs
  split at hs
  ·rename_i es he
   split at hs
   ·simp only [zJ] at hs;subst hs;have hr:=hf _ he;refine Am6 hr ?_;obtain ⟨A,m,c,k,es0,A',e1,e2,e3,e4,e5⟩:=hS;have hl:es.map List.length=es0.map List.length:=by
     rcases e2 with e2 | e2
     ·rw [e2] at he;simp only [D.freeze,Option.map_eq_some_iff,D.sl.injEq] at he;obtain ⟨es1,he,rfl⟩:=he;exact freezeEs_lens he
     ·rw [e2] at he;simp only [D.freeze,zJ,D.sl.injEq] at he;rw [he]
    exact ⟨A,m,c,k,es,A',e1,.inr rfl,by rw [← e3];have:=congrArg List.length hl;simpa using this,widths' hl e4,e5⟩
   ·cases hs
  ·cases hs
 | place s ps i o=>
  obtain ⟨x,hx,hn,hP⟩:=hL;have hf:=freeze_ok hM x (h.node_tidy hx) (h.node_wf hx hn) (hb _ rfl x hx);simp only [snap1,freezeAt,h.getAt,hx,Option.map_some] at hs
  split at hs
  ·rename_i es he;simp only [Option.map_eq_some_iff] at hs;obtain ⟨cs,hc,rfl⟩:=hs;have hr:=hf _ he;obtain ⟨g,b,cap,e1,e2⟩:=Ani hr hc;rcases hP with ⟨g',cap',e',sp,es',k,rfl,hi,hk,rfl⟩ | ⟨g',e',cs',rfl,rfl,rfl⟩
   ·simp only [T.val,Value.slice.injEq,zJ,Addr.mk.injEq,and_true] at e1;obtain ⟨⟨rfl,rfl⟩,e3,rfl⟩:=e1;have hck:cs.length=k:=by
     simp only [T.erase,D.freeze,Option.map_eq_some_iff,D.sl.injEq] at he;obtain ⟨es1,he,rfl⟩:=he;have hl:=freezeEs_lens he;refine widths' hl ?_ cs (List.mem_of_getElem? hc);intro y hy;rw [T.eraseE_eq] at hy;obtain ⟨z,hz,rfl⟩:=List.mem_map.1 hy;simpa using hk z hz
    rw [hck,Nat.zero_add] at e2;exact RI_ref_drop e2 o
   ·simp [T.erase,D.freeze] at he
  ·rename_i cs he
   split at hs
   ·rename_i hi0;simp only [zJ] at hs;subst hs;subst hi0;have hr:=hf _ he;rcases hP with ⟨g',cap',e',sp,es',k,rfl,hi,hk,rfl⟩ | ⟨g',e',cs',rfl,_,rfl⟩
    ·simp [T.erase,D.freeze] at he
    ·have:=RI_ref_drop (o:=o) hr
     rwa [Nat.zero_add] at this
   ·cases hs
  ·cases hs
 | undef=>simp [snap1,D.freeze] at hs
 | own=>simp [L1,RI] at hL
 | box=>simp [L1,RI] at hL
 | map=>simp [L1,RI] at hL
 | bld=>simp [L1,RI] at hL
 | agg=>simp [L1,RI] at hL
 | tup=>simp [L1,RI] at hL
 | lit x=>simp only [snap1,D.freeze,zJ] at hs;subst hs;exact RI.mono hM _ _ hL
 | sl x=>simp only [snap1,Ag6 (.sl x) v hL,zJ] at hs;subst hs;exact RI.mono hM _ _ hL
 | ref x=>simp only [snap1,Ag6 (.ref x) v hL,zJ] at hs;subst hs;exact RI.mono hM _ _ hL
 | fn f x=>simp only [snap1,Ag6 (.fn f x) v hL,zJ] at hs;subst hs;exact RI.mono hM _ _ hL
theorem snap1_nil {F:Fr} {Mc:Mem} {d':D} (hs:snap1 F (.own [])=some d'):RI Mc d' (.slice none 0 0):=by
 simp only [snap1,D.freeze,D.freezeEs,Option.map_some,zJ] at hs;subst hs;simp only [RI];exact ⟨none,0,0,rfl,rfl,Nat.le_refl _,by simp [maxLen],.inl trivial⟩
theorem snaps1_ok (h:Inv n R M F G H a w) {Mc:Mem} (hM:M.le Mc):∀ {cs cs':List D} {vs:List Value},All2 (VC M G) cs vs->snaps1 F cs=some cs'->(∀ p∈cs.filterMap D.at1,∀ x,(getT G p.1).getP p.2=some x->Has Mc x.blocks)->RCs Mc cs' vs
 | _,_,_,.nil,hs,_=>by simp only [snaps1,zJ] at hs;subst hs;simp [RCs]
 | _,_,_,@All2.cons _ _ _ c v cs _ p q,hs,hb=>by
  simp only [snaps1] at hs
  split at hs
  ·rename_i c' cs' h1 h2;simp only [zJ] at hs;subst hs;simp only [RCs];refine ⟨_,_,rfl,?_,snaps1_ok h hM q h2 fun y hy=>hb y (by
    rw [List.mem_filterMap] at hy ⊢;obtain ⟨z,hz,e⟩:=hy
    exact ⟨z,by simp [hz],e⟩)⟩
   obtain ⟨_,k | ⟨rfl,rfl⟩⟩:=p
   ·exact snap1_ok h hM k h1 fun y hy=>hb y (by rw [List.mem_filterMap];exact ⟨c,by simp,hy⟩)
   ·exact snap1_nil h1
  ·cases hs
theorem snapsL_ok (h:Inv n R M F G H a w) {Mc:Mem} (hM:M.le Mc):∀ {cs cs':List D} {vs:List Value},All2 (L1 M G) cs vs->snaps1 F cs=some cs'->(∀ p∈cs.filterMap D.at1,∀ x,(getT G p.1).getP p.2=some x->Has Mc x.blocks)->RCs Mc cs' vs
 | _,_,_,.nil,hs,_=>by simp only [snaps1,zJ] at hs;subst hs;simp [RCs]
 | _,_,_,@All2.cons _ _ _ c v cs _ p q,hs,hb=>by
  simp only [snaps1] at hs
  split at hs
  ·rename_i c' cs' h1 h2;simp only [zJ] at hs;subst hs;simp only [RCs];refine ⟨_,_,rfl,?_,snapsL_ok h hM q h2 fun y hy=>hb y (by
    rw [List.mem_filterMap] at hy ⊢;obtain ⟨z,hz,e⟩:=hy
    exact ⟨z,by simp [hz],e⟩)⟩
   exact snap1_ok h hM p h1 fun y hy=>hb y (by rw [List.mem_filterMap];exact ⟨c,by simp,hy⟩)
  ·cases hs
theorem snapD_ok (h:Inv n R M F G H a w) {Mc:Mem} (hM:M.le Mc) {d d':D} {v:Value} (hv:VOK M G d v) (hs:snapD F d=some d') (hb:∀ p∈d.ats,∀ x,(getT G p.1).getP p.2=some x->Has Mc x.blocks) :
  ∃ t:T,t.erase=d'/\t.val=v/\t.tidy/\Giv Mc t/\t.blocks=[]:=by
 have leaf:∀ d'',RI Mc d'' v->∃ t:T,t.erase=d''/\t.val=v/\t.tidy/\Giv Mc t/\t.blocks=[]:=fun d'' k=>by
  refine ⟨.leaf d'' v,by simp [T.erase],by simp [T.val],?_,k,by simp [T.blocks]⟩;cases d''<;>simp_all [T.tidy,RI]
 have one:∀ c,L1 M G c v->snap1 F c=some d'->(∀ p,c.at1=some p->∀ x,(getT G p.1).getP p.2=some x->Has Mc x.blocks)->∃ t:T,t.erase=d'/\t.val=v/\t.tidy/\Giv Mc t/\t.blocks=[]:=fun c h1 h2 h3=>leaf d' (snap1_ok h hM h1 h2 h3);cases d with
 | agg cs=>
  obtain ⟨vs,rfl,h2⟩:=hv;simp only [snapD,Option.map_eq_some_iff] at hs;obtain ⟨cs',hs,rfl⟩:=hs;have:=snaps1_ok h hM h2 hs hb;obtain ⟨ts,a1,a2,a3,a4,a5⟩:=Aer this;have hbl:T.blocksC ts=[]:=by rw [T.blocksC_eq,List.flatMap_eq_nil_iff];exact a5
  exact ⟨.agg ts,by simp [T.erase,T.eraseC_eq,a1],by simp [T.val,a2],a3,a4,by simp [T.blocks,hbl]⟩
 | fn f cs=>
  obtain ⟨vs,rfl,h2⟩:=hv;simp only [snapD,Option.map_eq_some_iff] at hs;obtain ⟨cs',hs,rfl⟩:=hs;have:=snapsL_ok h hM h2 hs hb;exact leaf _ (by simp only [RI];exact ⟨vs,rfl,this⟩)
 | own es=>
  cases es with
  | nil=>simp only [VOK] at hv;subst hv;exact leaf _ (snap1_nil (F:=F) hs)
  | cons=>simp [VOK,LOK,L1,RI] at hv
 | lit x=>exact one (.lit x) hv hs (fun p hp=>by cases hp)
 | sl x=>exact one (.sl x) hv hs (fun p hp=>by cases hp)
 | ref x=>exact one (.ref x) hv hs (fun p hp=>by cases hp)
 | undef=>simp [snapD,snap1,D.freeze] at hs
 | box=>simp [VOK,LOK,L1,RI] at hv
 | map=>simp [VOK,LOK,L1,RI] at hv
 | bld=>simp [VOK,LOK,L1,RI] at hv
 | tup=>simp [VOK,LOK,L1,RI] at hv
 | alias s ps=>exact one (.alias s ps) hv hs (fun p hp=>by cases hp;exact hb (s,ps) (by simp [D.ats,D.at1]))
 | sub s ps i k=>exact one (.sub s ps i k) hv hs (fun p hp=>by cases hp;exact hb (s,ps) (by simp [D.ats,D.at1]))
 | place s ps i k=>exact one (.place s ps i k) hv hs (fun p hp=>by cases hp;exact hb (s,ps) (by simp [D.ats,D.at1]))
end
theorem D.elem_setElem {d d':D} {i:Nat} {cs cs':List D} (h:d.elem i=some cs) (h':d.setElem i cs'=some d') (k:Nat):d'.elem k=if k=i then some cs' else d.elem k:=by
 cases d with
 | own es=>
  simp only [D.setElem,zJ] at h';subst h';simp only [D.elem] at h ⊢;obtain ⟨hi,_⟩:=List.getElem?_eq_some_iff.1 h;rw [List.getElem?_set];by_cases hk:i=k
  ·subst hk;simp [hi]
  ·simp [hk,Ne.symm hk]
 | agg cs0=>cases i with
  | zero=>simp only [D.setElem,zJ] at h';subst h';cases k<;>simp [D.elem]
  | succ i=>simp [D.elem] at h
 | box cs0=>cases i with
  | zero=>simp only [D.setElem,zJ] at h';subst h';cases k<;>simp [D.elem]
  | succ i=>simp [D.elem] at h
 | tup cs0=>cases i with
  | zero=>simp only [D.setElem,zJ] at h';subst h';cases k<;>simp [D.elem]
  | succ i=>simp [D.elem] at h
 | _=>simp [D.elem] at h
def Apart (p q:Path):Prop:=pre p q=false/\pre q p=false
theorem D.getP_apart:∀ (ps:Path) {d d' x:D},d.setP ps x=some d'->∀ p,Apart ps p->d'.getP p=d.getP p
 | [],d,d',x,_,p,hp=>by simp [Apart,pre] at hp
 | (i,o)::ps,d,d',x,hs,p,hp=>by
  simp only [D.setP] at hs;cases hi:d.elem i with
  | none=>simp [hi] at hs
  | some cs=>
   simp only [hi] at hs;cases ho:cs[o]? with
   | none=>simp [ho] at hs
   | some c=>
    simp only [ho] at hs;cases hc:c.setP ps x with
    | none=>simp [hc] at hs
    | some c'=>
     simp only [hc] at hs;have hel:=D.elem_setElem hi hs;cases p with
     | nil=>simp [Apart,pre] at hp
     | cons q p=>
      obtain ⟨k,m⟩:=q;simp only [D.getP];rw [hel k];by_cases hk:k=i
      ·subst hk;simp only [if_true,hi];by_cases hm:m=o
       ·subst hm;have hm':m<cs.length:=(List.getElem?_eq_some_iff.1 ho).1;simp only [List.getElem?_set_self hm',ho];exact D.getP_apart ps hc p (by simpa [Apart,pre] using hp)
       ·rw [List.getElem?_set_ne (Ne.symm hm)]
      ·simp only [hk,if_false]
theorem D.getP_hole:∀ (ps:Path) {d d' x:D},d.setP ps x=some d'->∀ r,d'.getP (ps++r)=x.getP r
 | [],d,d',x,hs,r=>by simp only [D.setP,zJ] at hs;subst hs;rfl
 | (i,o)::ps,d,d',x,hs,r=>by
  simp only [D.setP] at hs;cases hi:d.elem i with
  | none=>simp [hi] at hs
  | some cs=>
   simp only [hi] at hs;cases ho:cs[o]? with
   | none=>simp [ho] at hs
   | some c=>
    simp only [ho] at hs;cases hc:c.setP ps x with
    | none=>simp [hc] at hs
    | some c'=>
     simp only [hc] at hs;have hm':o<cs.length:=(List.getElem?_eq_some_iff.1 ho).1;simp only [List.cons_append,D.getP,D.elem_setElem hi hs i,if_true,List.getElem?_set_self hm'];exact D.getP_hole ps hc r
theorem freezeCs_none {cs:List D} {o:Nat} {c:D} (ho:o<cs.length) (hc:c.freeze=none):D.freezeCs (cs.set o c)=none:=by
 induction cs generalizing o with
 | nil=>simp at ho
 | cons x cs ih=>
  cases o with
  | zero=>simp [D.freezeCs,hc]
  | succ o=>
   simp only [List.set_cons_succ,D.freezeCs,ih (by simpa using ho)];cases x.freeze<;>rfl
theorem freezeEs_none {es:List (List D)} {i:Nat} {e:List D} (hi:i<es.length) (he:D.freezeCs e=none):D.freezeEs (es.set i e)=none:=by
 induction es generalizing i with
 | nil=>simp at hi
 | cons x es ih=>
  cases i with
  | zero=>simp [D.freezeEs,he]
  | succ i=>
   simp only [List.set_cons_succ,D.freezeEs,ih (by simpa using hi)];cases D.freezeCs x<;>rfl
theorem freeze_hole:∀ (ps:Path) {d d':D},d.setP ps .undef=some d'->d'.freeze=none
 | [],d,d',hs=>by simp only [D.setP,zJ] at hs;subst hs;rfl
 | (i,o)::ps,d,d',hs=>by
  simp only [D.setP] at hs;cases hi:d.elem i with
  | none=>simp [hi] at hs
  | some cs=>
   simp only [hi] at hs;cases ho:cs[o]? with
   | none=>simp [ho] at hs
   | some c=>
    simp only [ho] at hs;cases hc:c.setP ps .undef with
    | none=>simp [hc] at hs
    | some c'=>
     simp only [hc] at hs;have hm':o<cs.length:=(List.getElem?_eq_some_iff.1 ho).1;have hf:=freezeCs_none hm' (freeze_hole ps hc);cases d with
     | own es=>
      simp only [D.setElem,zJ] at hs;subst hs;simp only [D.elem] at hi;have:=freezeEs_none (List.getElem?_eq_some_iff.1 hi).1 hf;simp [D.freeze,this]
     | agg cs0=>cases i<;>simp [D.setElem,D.elem] at hs hi;subst hs;simp [D.freeze,hf]
     | box cs0=>cases i<;>simp [D.setElem,D.elem] at hs hi;subst hs;simp [D.freeze,hf]
     | tup cs0=>cases i<;>simp [D.setElem,D.elem] at hs hi;subst hs;simp [D.freeze]
     | _=>simp [D.elem] at hi
theorem D.getP_setP_above:∀ (p q:Path) {d d' x:D},d.setP (p++q) x=some d'->∃ y y',d.getP p=some y/\d'.getP p=some y'/\y.setP q x=some y'
 | [],q,d,d',x,hs=>⟨d,d',rfl,rfl,hs⟩
 | (i,o)::p,q,d,d',x,hs=>by
  simp only [List.cons_append,D.setP] at hs;cases hi:d.elem i with
  | none=>simp [hi] at hs
  | some cs=>
   simp only [hi] at hs;cases ho:cs[o]? with
   | none=>simp [ho] at hs
   | some c=>
    simp only [ho] at hs;cases hc:c.setP (p++q) x with
    | none=>simp [hc] at hs
    | some c'=>
     simp only [hc] at hs;have hm':o<cs.length:=(List.getElem?_eq_some_iff.1 ho).1;obtain ⟨y,y',h1,h2,h3⟩:=D.getP_setP_above p q hc;refine ⟨y,y',by simp [D.getP,hi,ho,h1],?_,h3⟩;simp only [D.getP,D.elem_setElem hi hs i,if_true,List.getElem?_set_self hm',h2]
theorem get_put0_same (F:Fr) (s:Nat) (d:D):get (put0 F s d) s=d:=by
 induction F with
 | nil=>simp [put0,get]
 | cons x r ih=>
  simp only [put0]
  split
  ·simp [get]
  ·rename_i h;simp [get,h,ih]
theorem get_put0_other (F:Fr) {s s':Nat} (d:D) (h:s'≠s):get (put0 F s d) s'=get F s':=by
 induction F with
 | nil=>simp [put0,get,Ne.symm h]
 | cons x r ih=>
  simp only [put0]
  split
  ·rename_i hk;subst hk;simp [get,Ne.symm h]
  ·simp only [get];split<;>simp_all
theorem freezeAt_hole {F F2:Fr} {s:Nat} {ps:Path} (hh:setAt F s ps .undef=some F2) {s':Nat} {p:Path} {d:D} (hf:freezeAt F2 s' p=some d):freezeAt F s' p=some d/\(s'=s->Apart ps p):=by
 simp only [setAt,Option.map_eq_some_iff] at hh;obtain ⟨d2,hd2,rfl⟩:=hh;by_cases hs:s'=s
 ·subst hs;simp only [freezeAt,getAt,get_put0_same] at hf ⊢;by_cases hp:pre ps p=true
  ·obtain ⟨r,rfl⟩:=(Ag8 ps p).1 hp;rw [D.getP_hole ps hd2 r] at hf;cases r with
   | nil=>simp [D.getP,D.freeze] at hf
   | cons q r=>obtain ⟨i,o⟩:=q;simp [D.getP,D.elem] at hf
  ·by_cases hp2:pre p ps=true
   ·obtain ⟨r,rfl⟩:=(Ag8 p ps).1 hp2;obtain ⟨y,y',h1,h2,h3⟩:=D.getP_setP_above p r hd2;rw [h2] at hf;simp only [freeze_hole r h3] at hf;cases hf
   ·have hap:Apart ps p:=⟨by simpa using hp,by simpa using hp2⟩
    rw [D.getP_apart ps hd2 p hap] at hf;exact ⟨hf,fun _=>hap⟩
 ·simp only [freezeAt,getAt,get_put0_other F d2 hs] at hf ⊢;exact ⟨hf,fun h=>absurd h hs⟩
theorem snap1_hole {F F2:Fr} {s:Nat} {ps:Path} (hh:setAt F s ps .undef=some F2) {d d':D} (hs:snap1 F2 d=some d'):snap1 F d=some d'/\∀ p,d.at1=some p->p.1=s->Apart ps p.2:=by
 cases d with
 | alias s' p=>
  simp only [snap1] at hs ⊢;obtain ⟨h1,h2⟩:=freezeAt_hole hh hs;exact ⟨h1,fun q hq=>by cases hq;exact h2⟩
 | sub s' p off len=>
  simp only [snap1] at hs ⊢;cases hf:freezeAt F2 s' p with
  | none=>simp [hf] at hs
  | some x=>
   obtain ⟨h1,h2⟩:=freezeAt_hole hh hf;rw [hf] at hs;rw [h1];exact ⟨hs,fun q hq=>by cases hq;exact h2⟩
 | place s' p i o=>
  simp only [snap1] at hs ⊢;cases hf:freezeAt F2 s' p with
  | none=>simp [hf] at hs
  | some x=>
   obtain ⟨h1,h2⟩:=freezeAt_hole hh hf;rw [hf] at hs;rw [h1];exact ⟨hs,fun q hq=>by cases hq;exact h2⟩
 | _=>exact ⟨hs,fun q hq=>by cases hq⟩
theorem snaps1_hole {F F2:Fr} {s:Nat} {ps:Path} (hh:setAt F s ps .undef=some F2):∀ {cs cs':List D},snaps1 F2 cs=some cs'->snaps1 F cs=some cs'/\∀ p∈cs.filterMap D.at1,p.1=s->Apart ps p.2
 | [],cs',hs=>⟨hs,by simp⟩
 | c::cs,cs',hs=>by
  simp only [snaps1] at hs ⊢
  split at hs
  ·rename_i c' cs'' h1 h2;obtain ⟨k1,k2⟩:=snap1_hole hh h1;obtain ⟨k3,k4⟩:=snaps1_hole hh h2;rw [k1,k3];refine ⟨hs,fun p hp=>?_⟩;rw [List.mem_filterMap] at hp;obtain ⟨z,hz,e⟩:=hp;rcases List.mem_cons.1 hz with rfl | hz
   ·exact k2 p e
   ·exact k4 p (by rw [List.mem_filterMap];exact ⟨z,hz,e⟩)
  ·cases hs
theorem snapD_hole {F F2:Fr} {s:Nat} {ps:Path} (hh:setAt F s ps .undef=some F2) {d d':D} (hs:snapD F2 d=some d'):snapD F d=some d'/\∀ p∈d.ats,p.1=s->Apart ps p.2:=by
 have one:∀ c,snapD F2 c=snap1 F2 c->snapD F c=snap1 F c->c.ats=c.at1.toList->snapD F2 c=some d'->snapD F c=some d'/\∀ p∈c.ats,p.1=s->Apart ps p.2:=fun c e1 e2 e3 h=>by
  rw [e1] at h;rw [e2,e3];obtain ⟨k1,k2⟩:=snap1_hole hh h;exact ⟨k1,fun p hp=>k2 p (by simpa using hp)⟩
 cases d with
 | agg cs=>
  simp only [snapD,Option.map_eq_some_iff] at hs ⊢;obtain ⟨cs',h1,h2⟩:=hs;obtain ⟨k1,k2⟩:=snaps1_hole hh h1;exact ⟨⟨cs',k1,h2⟩,k2⟩
 | fn f cs=>
  simp only [snapD,Option.map_eq_some_iff] at hs ⊢;obtain ⟨cs',h1,h2⟩:=hs;obtain ⟨k1,k2⟩:=snaps1_hole hh h1;exact ⟨⟨cs',k1,h2⟩,k2⟩
 | _=>exact one _ rfl rfl rfl hs
end Go.Own
namespace Go.Own
open D
namespace T
theorem getP_apart:∀ (ps:Path) {d d' x:T},d.setP ps x=some d'->∀ p,Apart ps p->d'.getP p=d.getP p
 | [],d,d',x,_,p,hp=>by simp [Apart,pre] at hp
 | (i,o)::ps,d,d',x,hs,p,hp=>by
  simp only [setP] at hs;cases hi:d.elem i with
  | none=>simp [hi] at hs
  | some cs=>
   simp only [hi] at hs;cases ho:cs[o]? with
   | none=>simp [ho] at hs
   | some c=>
    simp only [ho] at hs;cases hc:c.setP ps x with
    | none=>simp [hc] at hs
    | some c'=>
     simp only [hc] at hs;have hel:=elem_setElem hi hs;cases p with
     | nil=>simp [Apart,pre] at hp
     | cons q p=>
      obtain ⟨k,m⟩:=q;simp only [getP];rw [hel k];by_cases hk:k=i
      ·subst hk;simp only [if_true,hi];by_cases hm:m=o
       ·subst hm;have hm':m<cs.length:=(List.getElem?_eq_some_iff.1 ho).1;simp only [List.getElem?_set_self hm',ho];exact getP_apart ps hc p (by simpa [Apart,pre] using hp)
       ·rw [List.getElem?_set_ne (Ne.symm hm)]
      ·simp only [hk,if_false]
theorem getP_setP_above:∀ (p q:Path) {d d' x:T},d.setP (p++q) x=some d'->∃ y y',d.getP p=some y/\d'.getP p=some y'/\y.setP q x=some y'
 | [],q,d,d',x,hs=>⟨d,d',rfl,rfl,hs⟩
 | (i,o)::p,q,d,d',x,hs=>by
  simp only [List.cons_append,setP] at hs;cases hi:d.elem i with
  | none=>simp [hi] at hs
  | some cs=>
   simp only [hi] at hs;cases ho:cs[o]? with
   | none=>simp [ho] at hs
   | some c=>
    simp only [ho] at hs;cases hc:c.setP (p++q) x with
    | none=>simp [hc] at hs
    | some c'=>
     simp only [hc] at hs;have hm':o<cs.length:=(List.getElem?_eq_some_iff.1 ho).1;obtain ⟨y,y',h1,h2,h3⟩:=getP_setP_above p q hc;refine ⟨y,y',by simp [getP,hi,ho,h1],?_,h3⟩;simp only [getP,elem_setElem hi hs i,if_true,List.getElem?_set_self hm',h2]
theorem getP_kill2_blocks (dead:Bool->Nat->Path->Bool) {t x':T} {p:Path} (h:(kill2 dead t).getP p=some x'):∃ x,t.getP p=some x/\x'.blocks=x.blocks:=by
 cases t with
 | leaf d v=>
  simp only [kill2] at h;obtain ⟨rfl,rfl⟩:=Adl h;exact ⟨_,rfl,by simp [blocks]⟩
 | agg cs=>
  cases p with
  | nil=>simp only [getP,zJ] at h;subst h;exact ⟨_,rfl,blocks_kill2 dead (.agg cs)⟩
  | cons q p=>
   obtain ⟨i,o⟩:=q;cases i with
   | succ i=>simp [kill2,getP,elem] at h
   | zero=>
    simp only [kill2,getP,elem,List.getElem?_map] at h ⊢;cases ho:cs[o]? with
    | none=>simp [ho] at h
    | some c=>
     simp only [ho,Option.map_some] at h ⊢;cases c with
     | leaf d v=>
      simp only [kill1] at h;obtain ⟨rfl,rfl⟩:=Adl h;exact ⟨_,rfl,by simp [blocks]⟩
     | _=>exact ⟨x',h,rfl⟩
 | _=>exact ⟨x',h,rfl⟩
end T
def Mem.withK (M:Mem) (K:List Nat) (w:World):Mem:=fun g=>if g∈K then w.heap[g]? else M g
def Mem.minus (M:Mem) (K:List Nat):Mem:=fun g=>if g∈K then none else M g
theorem Mem.le_withK {M:Mem} {w:World} {B:Blks} (h:BlkOK M w B) {K:List Nat} (hK:∀ g∈K,g∈keys B):M.le (M.withK K w):=fun g o hg=>by
 simp only [Mem.withK];rw [if_neg]
 ·exact hg
 ·intro hk;obtain ⟨b,hb,rfl⟩:=List.mem_map.1 (hK g hk);rw [h.apart b hb] at hg;cases hg
theorem Aar.withK {M:Mem} {w:World} (h:Aar M w) (K:List Nat):Aar (M.withK K w) w:=fun g o hg=>by
 simp only [Mem.withK] at hg
 split at hg
 ·exact hg
 ·exact h g o hg
theorem BlkOK.has {M:Mem} {w:World} {B:Blks} (h:BlkOK M w B) {B':Blks} (hB:∀ b∈B',b∈B):Has (M.withK (keys B') w) B':=fun b hb=>by
 simp only [Mem.withK];have hk:b.1∈keys B':=List.mem_map.2 ⟨b,hb,rfl⟩;rw [if_pos hk];exact h.heap b (hB b hb)
theorem BlkOK.withK {M:Mem} {w:World} {A B:Blks} (h:BlkOK M w (A++B)):BlkOK (M.withK (keys B) w) w A where
 nodup:=h.left.nodup
 heap:=h.left.heap
 apart x hx:=by
  simp only [Mem.withK];rw [if_neg]
  ·exact h.left.apart x hx
  ·intro hk;have:=h.nodup;rw [List.map_append,List.nodup_append] at this;exact this.2.2 x.1 (List.mem_map.2 ⟨x,hx,rfl⟩) x.1 hk rfl
def Ahc (G G':FT) (M':Mem):Prop:=∀ s p x',(getT G' s).getP p=some x'->∃ x,(getT G s).getP p=some x/\∀ b∈x.blocks,b∈x'.blocks∨M' b.1=some b.2
theorem Ahc.refl (G:FT) (M:Mem):Ahc G G M:=fun _ _ x' h=>⟨x',h,fun _ hb=>.inl hb⟩
theorem Ahc.trans {G G1 G2:FT} {M1 M2:Mem} (h:Ahc G G1 M1) (k:Ahc G1 G2 M2) (hM:M1.le M2):Ahc G G2 M2:=fun s p x' hx=>by
 obtain ⟨y,hy,h1⟩:=k s p x' hx;obtain ⟨z,hz,h2⟩:=h s p y hy;refine ⟨z,hz,fun b hb=>?_⟩;rcases h2 b hb with h3 | h3
 ·exact h1 b h3
 ·exact .inr (hM _ _ h3)
def Aky (G G':FT) (L:List (Nat×Path)):Prop:=∀ s p x,(getT G s).getP p=some x->x.node=true->(∀ q∈L,q.1=s->Apart q.2 p)->(getT G' s).getP p=some x
section
variable {n:Nat} {R:Nat->Value} {M:Mem} {F F':Fr} {G:FT} {H:Blks} {a:Act} {w:World}
structure Frz (M:Mem) (G:FT) (w:World) (M':Mem) (G':FT):Prop where
 le:M.le M'
 new:∀ g o,M' g=some o->M g=some o∨g∈keys (Aa0 G)
 sub:∀ g∈keys (Aa0 G'),g∈keys (Aa0 G)
 cov:Ahc G G' M'
theorem Frz.refl (M:Mem) (G:FT) (w:World):Frz M G w M G:=⟨Mem.le_refl M,fun _ _ h=>.inl h,fun _ h=>h,Ahc.refl G M⟩
theorem Frz.trans {M1 M2:Mem} {G1 G2:FT} (h:Frz M G w M1 G1) (k:Frz M1 G1 w M2 G2):Frz M G w M2 G2:=
 ⟨Mem.le_trans h.le k.le,fun g o hg=>(k.new g o hg).elim (h.new g o) (fun hh=>.inr (h.sub g hh)),fun g hg=>h.sub g (k.sub g hg),h.cov.trans k.cov k.le⟩
theorem Aw0 {x:T} (ht:x.tidy) (h:x.erase.ex1=true):x.node=true:=by
 cases x with
 | leaf d v=>cases d<;>simp_all [T.tidy,T.erase,D.ex1]
 | agg=>simp [T.erase,D.ex1] at h
 | tup=>simp [T.erase,D.ex1] at h
 | _=>rfl
theorem Ap0 (h:Inv n R M F G H a w) {s:Nat} {ps:Path} (hf:frzAt F s ps=some F') :
  ∃ M' G',Inv n R M' F' G' H a w/\Frz M G w M' G'/\(∃ x,(getT G s).getP ps=some x/\Has M' x.blocks)/\Aky G G' [(s,ps)]:=by
 simp only [frzAt,h.getAt] at hf;cases hx:(getT G s).getP ps with
 | none=>simp [hx] at hf
 | some x=>
  simp only [hx,Option.map_some] at hf;have hxt:=h.node_tidy hx
  split at hf
  ·rename_i hex;have hn:=Aw0 hxt hex;have hxw:=h.node_wf hx hn;cases hfr:x.erase.freeze with
   | none=>simp [hfr] at hf
   | some c'=>
    simp only [hfr] at hf;obtain ⟨r,p1,p2⟩:=Aeh hx;obtain ⟨t',q1,q2,q3⟩:=p2 (.leaf c' x.val) rfl;have hsub:∀ b∈x.blocks,b∈Aa0 G:=fun b hb=>p1.mem_iff.1 (by simp [hb])
    let M':Mem:=M.withK (keys x.blocks) w
    have hM:M.le M':=Mem.le_withK h.blk.left (fun g hg=>by
     obtain ⟨b,hb,rfl⟩:=List.mem_map.1 hg
     exact List.mem_map.2 ⟨b,hsub b hb,rfl⟩)
    have hhas:Has M' x.blocks:=h.blk.left.has hsub;have hri:RI M' c' x.val:=freeze_ok hM x hxt hxw hhas c' hfr;have hperm:((Aa0 (Aa7 G s t')++H)++x.blocks).Perm (Aa0 G++H):=by
     refine List.Perm.trans ?_ (p1.append_right H);refine ((q3.symm.append_right H).append_right _).trans ?_;simp only [T.blocks,List.nil_append];refine List.perm_append_comm.trans ?_;simp
    have hblk:BlkOK M' w (Aa0 (Aa7 G s t')++H):=(h.blk.perm hperm.symm).withK;have htd':(T.leaf c' x.val).tidy:=by cases c'<;>simp_all [T.tidy,RI]
    have hk:=Alh (x':=.leaf c' x.val) hx q1 (fun _=>by
     refine ⟨?_,rfl⟩;have:x.erase.freeze=some c':=hfr;cases x with
     | leaf d v=>simp only [T.erase] at hex;cases d<;>simp_all [T.tidy,D.ex1]
     | own g cap e sp es=>simp only [T.erase,D.freeze,Option.map_eq_some_iff] at this;obtain ⟨_,_,rfl⟩:=this;rfl
     | nil=>simp only [T.erase,D.freeze,Option.map_eq_some_iff] at this;obtain ⟨_,_,rfl⟩:=this;rfl
     | box g e cs=>simp only [T.erase,D.freeze,Option.map_eq_some_iff] at this;obtain ⟨_,_,rfl⟩:=this;rfl
     | map=>simp [T.erase,D.freeze] at this
     | bld=>simp [T.erase,D.freeze] at this
     | agg=>simp [T.node] at hn
     | tup=>simp [T.node] at hn)
    obtain ⟨F1,k1,k2⟩:=h.path hM q1 q2 (deadIn s ps) hk htd' (.inr hri) (Aaz hx hn) hblk (h.mem.withK _);simp only [T.erase] at k1;rw [k1] at hf;simp only [Option.map_some,zJ] at hf;subst hf;refine ⟨M',_,k2,⟨hM,fun g o hg=>?_,fun g hg=>?_,?_⟩,⟨x,rfl,hhas⟩,?_⟩
    ·simp only [M',Mem.withK] at hg
     split at hg
     ·rename_i hgk;obtain ⟨b,hb,rfl⟩:=List.mem_map.1 hgk;exact .inr (List.mem_map.2 ⟨b,hsub b hb,rfl⟩)
     ·exact .inl hg
    ·rw [Aay] at hg;have h1:g∈((Aa0 (Aa7 G s t')++x.blocks)).map Prod.fst:=by rw [List.map_append];exact List.mem_append_left _ hg
     have h2:((Aa0 (Aa7 G s t'))++x.blocks).Perm (Aa0 G):=by
      refine List.Perm.trans ?_ p1;refine (q3.symm.append_right _).trans ?_;simp only [T.blocks,List.nil_append];exact List.perm_append_comm
     exact (h2.map Prod.fst).mem_iff.1 h1
    ·intro s' p x' hx';rw [Ald] at hx';obtain ⟨x1,hx1,hb1⟩:=T.getP_kill2_blocks _ hx';rw [hb1];by_cases hs:s'=s
     ·subst hs;rw [Abr] at hx1;by_cases hp:pre ps p=true
      ·obtain ⟨r',rfl⟩:=(Ag8 ps p).1 hp;rw [T.getP_setP_below ps hx q1 r'] at hx1;obtain ⟨rfl,rfl⟩:=Adl hx1;refine ⟨x,by simpa using hx,fun b hb=>.inr (hhas b hb)⟩
      ·by_cases hp2:pre p ps=true
       ·obtain ⟨q,rfl⟩:=(Ag8 p ps).1 hp2;obtain ⟨y,y',e1,e2,e3⟩:=T.getP_setP_above p q q1;rw [e2] at hx1;cases hx1;refine ⟨y,e1,fun b hb=>?_⟩;have hxq:y.getP q=some x:=by rw [← T.getP_below p e1];exact hx
        obtain ⟨rr,f1,f2⟩:=T.focus q hxq;obtain ⟨y2,g1,_,g3⟩:=f2 (.leaf c' x.val) rfl;rw [e3] at g1;cases g1;rcases List.mem_append.1 (f1.mem_iff.2 hb) with hb | hb
        ·exact .inr (hhas b hb)
        ·exact .inl (g3.mem_iff.1 (by simp [hb]))
       ·have:=T.getP_apart ps q1 p ⟨by simpa using hp,by simpa using hp2⟩;rw [this] at hx1;exact ⟨x1,hx1,fun b hb=>.inl hb⟩
     ·rw [Aaq G t' hs] at hx1;exact ⟨x1,hx1,fun b hb=>.inl hb⟩
    ·intro s' p y hy hyn hap;rw [Ald];refine T.getP_kill2 _ ?_ hyn;by_cases hs:s'=s
     ·subst hs;rw [Abr,T.getP_apart ps q1 p (hap (s',ps) (by simp) rfl)];exact hy
     ·rw [Aaq G t' hs];exact hy
  ·split at hf
   ·rename_i hnx hn1;simp only [zJ] at hf;subst hf;refine ⟨M,G,h,Frz.refl M G w,⟨x,rfl,?_⟩,fun s' p y hy _ _=>hy⟩;have:∃ d v,x=.leaf d v:=by
     cases x with
     | leaf d v=>exact ⟨d,v,rfl⟩
     | agg=>simp [T.erase,D.node1] at hn1
     | tup=>simp [T.erase,D.node1] at hn1
     | _=>simp [T.erase,D.ex1] at hnx
    obtain ⟨d,v,rfl⟩:=this;intro b hb;simp [T.blocks] at hb
   ·cases hf
theorem Anm (h:Inv n R M F G H a w) {d:D} (hf:frz1 F d=some F') :
  ∃ M' G',Inv n R M' F' G' H a w/\Frz M G w M' G'/\(∀ p,d.at1=some p->∃ x,(getT G p.1).getP p.2=some x/\Has M' x.blocks)/\Aky G G' d.at1.toList:=by
 have none:some F=some F'->d.at1=Option.none->∃ M' G',Inv n R M' F' G' H a w/\Frz M G w M' G'/\(∀ p,d.at1=some p->∃ x,(getT G p.1).getP p.2=some x/\Has M' x.blocks)/\Aky G G' d.at1.toList:=fun e1 e2=>by
  cases e1;exact ⟨M,G,h,Frz.refl M G w,fun p hp=>(by rw [e2] at hp;cases hp),fun s' p y hy _ _=>hy⟩
 cases d with
 | alias s ps=>
  obtain ⟨M',G',h1,h2,h3,h4⟩:=Ap0 h hf;exact ⟨M',G',h1,h2,fun p hp=>by cases hp;exact h3,h4⟩
 | sub s ps i k=>
  obtain ⟨M',G',h1,h2,h3,h4⟩:=Ap0 h hf;exact ⟨M',G',h1,h2,fun p hp=>by cases hp;exact h3,h4⟩
 | place s ps i o=>simp [frz1] at hf
 | _=>exact none hf rfl
theorem Arh:∀ {ds:List D} {M:Mem} {F F':Fr} {G:FT},Inv n R M F G H a w->frzs F ds=some F' ->
  ∃ M' G',Inv n R M' F' G' H a w/\Frz M G w M' G'/\(∀ p∈ds.filterMap D.at1,∀ x,(getT G p.1).getP p.2=some x->Has M' x.blocks)/\Aky G G' (ds.filterMap D.at1)
 | [],M,F,F',G,h,hf=>by
  simp only [frzs,zJ] at hf;subst hf;exact ⟨M,G,h,Frz.refl M G w,by simp,fun s' p y hy _ _=>hy⟩
 | d::ds,M,F,F',G,h,hf=>by
  simp only [frzs] at hf;cases h1:frz1 F d with
  | none=>simp [h1] at hf
  | some F1=>
   simp only [h1] at hf;obtain ⟨M1,G1,a1,a2,a3,a4⟩:=Anm h h1;obtain ⟨M2,G2,b1,b2,b3,b4⟩:=Arh a1 hf;refine ⟨M2,G2,b1,a2.trans b2,fun p hp x hx=>?_,fun s' p y hy hn hap=>?_⟩
   ·rw [List.mem_filterMap] at hp;obtain ⟨z,hz,e⟩:=hp;rcases List.mem_cons.1 hz with rfl | hz
    ·obtain ⟨x',hx',hh⟩:=a3 p e;rw [hx] at hx';cases hx';exact hh.mono b2.le
    ·
     have hm:p∈ds.filterMap D.at1:=by rw [List.mem_filterMap];exact ⟨z,hz,e⟩
     by_cases hex:∃ x',(getT G1 p.1).getP p.2=some x'
     ·obtain ⟨x',hx'⟩:=hex;obtain ⟨x2,hx2,hc⟩:=a2.cov p.1 p.2 x' hx';rw [hx] at hx2;cases hx2;have hh:=b3 p hm x' hx';intro b hb;rcases hc b hb with hc | hc
      ·exact hh b hc
      ·exact b2.le _ _ hc
     ·exfalso;have:∀ {ds:List D} {M:Mem} {F:Fr} {G:FT},Inv n R M F G H a w->frzs F ds=some F'->∀ p∈ds.filterMap D.at1,∃ x',(getT G p.1).getP p.2=some x':=by
       intro ds
       induction ds with
       | nil=>intro _ _ _ _ _ p hp;simp at hp
       | cons d ds ih=>
        intro M F G h hf p hp;simp only [frzs] at hf;cases h1:frz1 F d with
        | none=>simp [h1] at hf
        | some F1=>
         simp only [h1] at hf;obtain ⟨M1,G1,a1,a2,a3,a4⟩:=Anm h h1;rw [List.mem_filterMap] at hp;obtain ⟨z,hz,e⟩:=hp;rcases List.mem_cons.1 hz with rfl | hz
         ·obtain ⟨x',hx',_⟩:=a3 p e;exact ⟨x',hx'⟩
         ·obtain ⟨x',hx'⟩:=ih a1 hf p (by rw [List.mem_filterMap];exact ⟨z,hz,e⟩);obtain ⟨x2,hx2,_⟩:=a2.cov p.1 p.2 x' hx';exact ⟨x2,hx2⟩
      exact hex (this a1 hf p hm)
   ·refine b4 s' p y (a4 s' p y hy hn fun q hq=>hap q ?_) hn fun q hq=>hap q ?_
    ·rw [List.mem_filterMap];exact ⟨d,by simp,by simpa using hq⟩
    ·rw [List.mem_filterMap] at hq ⊢;obtain ⟨z,hz,e⟩:=hq;exact ⟨z,by simp [hz],e⟩
theorem Bc8 (h:Inv n R M F G H a w) {d:D} (hf:frzD F d=some F') :
  ∃ M' G',Inv n R M' F' G' H a w/\Frz M G w M' G'/\(∀ p∈d.ats,∃ x,(getT G p.1).getP p.2=some x)/\(∀ p∈d.ats,∀ x,(getT G p.1).getP p.2=some x->Has M' x.blocks)/\Aky G G' d.ats:=by
 have there:∀ {ds:List D} {M:Mem} {F:Fr} {G:FT},Inv n R M F G H a w->frzs F ds=some F'->∀ p∈ds.filterMap D.at1,∃ x',(getT G p.1).getP p.2=some x':=by
  intro ds
  induction ds with
  | nil=>intro _ _ _ _ _ p hp;simp at hp
  | cons d ds ih=>
   intro M F G h hf p hp;simp only [frzs] at hf;cases h1:frz1 F d with
   | none=>simp [h1] at hf
   | some F1=>
    simp only [h1] at hf;obtain ⟨M1,G1,a1,a2,a3,a4⟩:=Anm h h1;rw [List.mem_filterMap] at hp;obtain ⟨z,hz,e⟩:=hp;rcases List.mem_cons.1 hz with rfl | hz
    ·obtain ⟨x',hx',_⟩:=a3 p e;exact ⟨x',hx'⟩
    ·obtain ⟨x',hx'⟩:=ih a1 hf p (by rw [List.mem_filterMap];exact ⟨z,hz,e⟩);obtain ⟨x2,hx2,_⟩:=a2.cov p.1 p.2 x' hx';exact ⟨x2,hx2⟩
 have one:∀ c:D,frz1 F c=some F'->c.ats=c.at1.toList->∃ M' G',Inv n R M' F' G' H a w/\Frz M G w M' G'/\(∀ p∈c.ats,∃ x,(getT G p.1).getP p.2=some x)/\(∀ p∈c.ats,∀ x,(getT G p.1).getP p.2=some x->Has M' x.blocks)/\Aky G G' c.ats:=fun c h1 h2=>by
  obtain ⟨M1,G1,a1,a2,a3,a4⟩:=Anm h h1;rw [h2];refine ⟨M1,G1,a1,a2,fun p hp=>?_,fun p hp x hx=>?_,a4⟩
  ·obtain ⟨x',hx',_⟩:=a3 p (by simpa using hp);exact ⟨x',hx'⟩
  ·obtain ⟨x',hx',hh⟩:=a3 p (by simpa using hp);rw [hx] at hx';cases hx';exact hh
 cases d with
 | agg cs=>
  obtain ⟨M1,G1,a1,a2,a3,a4⟩:=Arh h hf;exact ⟨M1,G1,a1,a2,there h hf,a3,a4⟩
 | fn f cs=>
  obtain ⟨M1,G1,a1,a2,a3,a4⟩:=Arh h hf;exact ⟨M1,G1,a1,a2,there h hf,a3,a4⟩
 | _=>exact one _ hf rfl
theorem Aso:∀ {ds:List D} {M:Mem} {F F':Fr} {G:FT},Inv n R M F G H a w->frzAll F ds=some F' ->
  ∃ M' G',Inv n R M' F' G' H a w/\Frz M G w M' G'/\(∀ d∈ds,∀ p∈d.ats,∃ x,(getT G p.1).getP p.2=some x)/\(∀ d∈ds,∀ p∈d.ats,∀ x,(getT G p.1).getP p.2=some x->Has M' x.blocks)/\Aky G G' (ds.flatMap D.ats)
 | [],M,F,F',G,h,hf=>by
  simp only [frzAll,zJ] at hf;subst hf;exact ⟨M,G,h,Frz.refl M G w,by simp,by simp,fun s' p y hy _ _=>hy⟩
 | d::ds,M,F,F',G,h,hf=>by
  simp only [frzAll] at hf;cases h1:frzD F d with
  | none=>simp [h1] at hf
  | some F1=>
   simp only [h1] at hf;obtain ⟨M1,G1,a1,a2,a0,a3,a4⟩:=Bc8 h h1;obtain ⟨M2,G2,b1,b2,b0,b3,b4⟩:=Aso a1 hf;refine ⟨M2,G2,b1,a2.trans b2,fun e he p hp=>?_,fun e he p hp x hx=>?_,fun s' p y hy hn hap=>?_⟩
   ·rcases List.mem_cons.1 he with rfl | he
    ·exact a0 p hp
    ·obtain ⟨x',hx'⟩:=b0 e he p hp;obtain ⟨x2,hx2,_⟩:=a2.cov p.1 p.2 x' hx';exact ⟨x2,hx2⟩
   ·rcases List.mem_cons.1 he with rfl | he
    ·exact (a3 p hp x hx).mono b2.le
    ·obtain ⟨x',hx'⟩:=b0 e he p hp;obtain ⟨x2,hx2,hc⟩:=a2.cov p.1 p.2 x' hx';rw [hx] at hx2;cases hx2;have hh:=b3 e he p hp x' hx';intro b hb;rcases hc b hb with hc | hc
     ·exact hh b hc
     ·exact b2.le _ _ hc
   ·refine b4 s' p y (a4 s' p y hy hn fun q hq=>hap q ?_) hn fun q hq=>hap q ?_
    ·simp [hq]
    ·simp only [List.flatMap_cons,List.mem_append];exact .inr hq
end
end Go.Own
namespace Go.Own
open D
def Does (P:Program) (f:Nat) (args:Array Value) (w:World) (R:Ending->World->Prop):Prop:=match (callFunc f args).run P w with
 | .ok (.enter g vs) w'=>Calls P g vs w' R
 | .ok (.value v) w'=>R (.returned v) w'
 | _=>False
theorem Does.mono {P:Program} {f:Nat} {args:Array Value} {w:World} {R R':Ending->World->Prop} (h:Does P f args w R) (k:∀ e w',R e w'->R' e w'):Does P f args w R':=by
 unfold Does at *
 split
 ·rename_i hq;simp only [hq] at h;exact Calls.mono h k
 ·rename_i hq;simp only [hq] at h;exact k _ _ h
 ·rename_i h1 h2
  split at h
  ·rename_i g vs w' hq;exact h1 _ _ _ hq
  ·rename_i v w' hq;exact h2 _ _ hq
  ·exact h
def Acp (M:Mem):T->Prop
 | .tup ts=>∀ c∈ts,Giv M c
 | t=>Giv M t
theorem Am7 {M:Mem} {G:FT} {t:T} (h:Acp M t):Aao M G t:=by
 cases t with
 | tup ts=>
  intro c hc;have:=h c hc;cases c with
  | leaf d v=>exact .inr this
  | agg cs=>exact this
  | tup=>exact this.elim
  | _=>exact this
 | _=>exact Abj h
def Aav (E:Env) (f:Nat):Nat->List T->List T
 | _,[]=>[]
 | i,t::ts=>if E.mode f i=.inout then t::Aav E f (i+1) ts else Aav E f (i+1) ts
def Good (E:Env) (M:Mem):Prop:=∀ M',M.le M'->E.good M'
theorem Good.mono {E:Env} {M M':Mem} (h:Good E M) (k:M.le M'):Good E M':=fun M2 h2=>h M2 (Mem.le_trans k h2)
def FnOK (E:Env) (f:Nat) (ds:List D) (r:D) (outs:List D):Prop:=∀ (M:Mem) (w:World) (ts:List T),ts.map T.erase=ds->(∀ t∈ts,t.tidy/\Giv M t)->(∀ t∈Aav E f 0 ts,t.node=true)->BlkOK M w (T.blocksC ts)->Aar M w->Good E M ->
 Does E.P f (T.vals ts).toArray w fun e w'=>∃ M' t touts,e=.returned t.val/\t.erase=r/\t.tidy/\Acp M' t/\touts.map T.erase=outs/\(∀ o∈touts,o.tidy/\T.wf M' o)/\T.vals touts=T.vals (Aav E f 0 ts) /\
  BlkOK M' w' (t.blocks++T.blocksC touts)/\Aar M' w'/\Evo M (keys (T.blocksC ts)) w M' (keys (t.blocks++T.blocksC touts)) w'
def Abq (E:Env) (call:Nat->List D->Option (D×List D)):Prop:=∀ f ds r outs,call f ds=some (r,outs)->FnOK E f ds r outs
mutual
theorem Arf {M M':Mem}:∀ (t:T),t.tidy->t.erase.flat=true->T.wf M t->T.wf M' t
 | .leaf d v,ht,hf,hw=>by
  simp only [T.erase] at hf;cases d<;>simp_all [T.tidy,D.flat];rcases hw with ⟨h,_⟩ | h
  ·cases h
  ·exact .inr (by simp only [RI] at h ⊢;exact h)
 | .own g cap e sp es,ht,hf,hw=>by
  simp only [T.wf] at hw ⊢;exact ⟨hw.1,hw.2.1,hw.2.2.1,hw.2.2.2.1,flat_wfE es ht (by simpa [T.erase,D.flat] using hf) hw.2.2.2.2⟩
 | .nil,_,_,_=>by simp [T.wf]
 | .agg _,_,_,hw=>by simp [T.wf] at hw
 | .box g e cs,_,hf,_=>by simp [T.erase,D.flat] at hf
 | .map r c es,_,hf,_=>by simp [T.erase,D.flat] at hf
 | .bld v0 bs0 t0 e0 l0,_,hf,_=>by simp [T.erase,D.flat] at hf
 | .tup _,_,_,hw=>by simp [T.wf] at hw
theorem Aoz {M M':Mem}:∀ (ts:List T),T.tidyC ts->D.flatCs (T.eraseC ts)=true->T.wfC M ts->T.wfC M' ts
 | [],_,_,_=>by simp [T.wfC]
 | t::ts,ht,hf,hw=>by
  simp only [T.eraseC,D.flatCs,Bool.and_eq_true] at hf;exact ⟨Arf t ht.1 hf.1 hw.1,Aoz ts ht.2 hf.2 hw.2⟩
theorem flat_wfE {M M':Mem}:∀ (es:List (List T)),T.tidyE es->D.flatEs (T.eraseE es)=true->T.wfE M es->T.wfE M' es
 | [],_,_,_=>by simp [T.wfE]
 | t::ts,ht,hf,hw=>by
  simp only [T.eraseE,D.flatEs,Bool.and_eq_true] at hf;exact ⟨Aoz t ht.1 hf.1 hw.1,flat_wfE ts ht.2 hf.2 hw.2⟩
end
theorem flat_Giv {M M':Mem} {t:T} (ht:t.tidy) (hf:t.erase.flat=true) (hg:Giv M t):Giv M' t:=by
 cases t with
 | leaf d v=>
  simp only [T.erase] at hf;cases d<;>simp_all [T.tidy,D.flat,Giv,RI]
 | agg cs=>exact Aoz cs ht (by simpa [T.erase,D.flat] using hf) hg
 | tup=>exact hg.elim
 | own g cap e sp es=>exact Arf _ ht hf hg
 | nil=>simp [Giv,T.wf]
 | box=>simp [T.erase,D.flat] at hf
 | map=>simp [T.erase,D.flat] at hf
 | bld=>simp [T.erase,D.flat] at hf
theorem flatCs_mem:∀ {ds:List D},D.flatCs ds=true->∀ d∈ds,d.flat=true
 | [],_,d,hd=>by cases hd
 | c::cs,h,d,hd=>by
  simp only [D.flatCs,Bool.and_eq_true] at h;rcases List.mem_cons.1 hd with rfl | hd
  ·exact h.1
  ·exact flatCs_mem h.2 d hd
theorem flat_Res {M M':Mem} {t:T} (ht:t.tidy) (hf:t.erase.flat=true) (hg:Acp M t):Acp M' t:=by
 cases t with
 | tup ts=>
  intro c hc;simp only [T.erase,D.flat] at hf;refine flat_Giv ((T.tidyC_iff ts).1 ht c hc) (flatCs_mem hf c.erase ?_) (hg c hc);rw [T.eraseC_eq];exact List.mem_map.2 ⟨c,hc,rfl⟩
 | leaf d v=>exact flat_Giv (t:=.leaf d v) ht hf hg
 | agg cs=>exact flat_Giv (t:=.agg cs) ht hf hg
 | own g cap e sp es=>exact flat_Giv (t:=.own g cap e sp es) ht hf hg
 | nil=>exact flat_Giv (M:=M) (M':=M') (t:=.nil) ht hf hg
 | box g e cs=>exact flat_Giv (t:=.box g e cs) ht hf hg
 | map r c es=>exact flat_Giv (t:=.map r c es) ht hf hg
 | bld v0 bs0 t0 e0 l0=>exact flat_Giv (M:=M) (M':=M') (t:=.bld v0 bs0 t0 e0 l0) ht hf hg
theorem flatR_of {d:D} (h:d.flat=true):d.flatR=true:=by
 unfold D.flatR
 split
 ·rfl
 ·exact h
theorem flatR_Res {M M':Mem} {t:T} (ht:t.tidy) (hf:t.erase.flatR=true) (hg:Acp M t):Acp M' t:=by
 unfold D.flatR at hf
 split at hf
 ·rename_i he;cases t with
  | leaf d v=>
   simp only [T.erase] at he;subst he;have hg:RI M (.sl []) v:=hg;show RI M' (.sl []) v;simp only [RI] at hg ⊢;obtain ⟨A,n,c,h1,h2,h3,h4,_⟩:=hg;exact ⟨A,n,c,h1,h2,h3,h4,.inl trivial⟩
  | _=>simp [T.erase] at he
 ·exact flat_Res ht hf hg
section
variable {n:Nat} {R:Nat->Value} {M:Mem} {F F':Fr} {G:FT} {H:Blks} {a:Act} {w:World}
def valA (a:Act) (cv:List Value):Arg->Value
 | .opn x=>a.eval x
 | .cap j=>cv.getD j undef
def ArgFits (n:Nat) (bs:List Arg):Prop:=∀ x,Arg.opn x∈bs->Fits n x
theorem ArgFits.tail {b:Arg} {bs:List Arg} (h:ArgFits n (b::bs)):ArgFits n bs:=fun x hx=>h x (by simp [hx])
def moved:List (Option T)->Blks
 | []=>[]
 | some t::ms=>t.blocks++moved ms
 | none::ms=>moved ms
def MovedOK (E:Env) (f:Nat) (M:Mem) (a:Act):Nat->List Arg->List (Option T)->Prop
 | _,[],[]=>True
 | i,b::bs,some t::ms=>(∃ x,b=.opn x/\t.val=a.eval x)/\E.mode f i=.move/\t.tidy/\Giv M t/\MovedOK E f M a (i+1) bs ms
 | i,b::bs,none::ms=>E.mode f i≠.move/\MovedOK E f M a (i+1) bs ms
 | _,_,_=>False
theorem passMoves_ok {E:Env} {f:Nat}:∀ (bs:List Arg) (i:Nat) {F:Fr} {G:FT} {H:Blks} {F1:Fr} {ms:List (Option D)},Inv n R M F G H a w->ArgFits n bs->passMoves E f i F bs=some (ms,F1) ->
  ∃ mts G1,mts.map (Option.map T.erase)=ms/\MovedOK E f M a i bs mts/\Inv n R M F1 G1 (moved mts++H) a w/\Sub (Aa0 G1++(moved mts++H)) (Aa0 G++H)
 | [],i,F,G,H,F1,ms,h,_,hp=>by
  simp only [passMoves,zJ,Prod.mk.injEq] at hp;obtain ⟨rfl,rfl⟩:=hp;exact ⟨[],G,rfl,trivial,by simpa [moved] using h,by simpa [moved] using Sub.refl _⟩
 | b::bs,i,F,G,H,F1,ms,h,hf,hp=>by
  simp only [passMoves] at hp
  have keep:E.mode f i≠.move->(match passMoves E f (i+1) F bs with
    | some (ds,F2)=>some (none::ds,F2)
    | none=>none)=some (ms,F1)->∃ mts G1,mts.map (Option.map T.erase)=ms/\MovedOK E f M a i (b::bs) mts/\Inv n R M F1 G1 (moved mts++H) a w/\Sub (Aa0 G1++(moved mts++H)) (Aa0 G++H):=fun hm hp=>by
   cases hr:passMoves E f (i+1) F bs with
   | none=>simp [hr] at hp
   | some q2=>
    obtain ⟨ds,Fb⟩:=q2;simp only [hr,zJ,Prod.mk.injEq] at hp;obtain ⟨rfl,rfl⟩:=hp;obtain ⟨mts,Gb,b1,b2,b3,b4⟩:=passMoves_ok bs (i+1) h hf.tail hr;exact ⟨none::mts,Gb,by simp [b1],⟨hm,b2⟩,by simpa [moved] using b3,by simpa [moved] using b4⟩
  cases hmd:E.mode f i with
  | snap=>rw [hmd] at hp;exact keep (by rw [hmd];simp) hp
  | inout=>rw [hmd] at hp;exact keep (by rw [hmd];simp) hp
  | move=>
   rw [hmd] at hp;cases b with
   | cap j=>cases hp
   | opn x=>
    simp only at hp;cases ho:takeOp E F x with
    | none=>simp [ho] at hp
    | some q=>
     obtain ⟨d,Fa⟩:=q;simp only [ho] at hp;cases hr:passMoves E f (i+1) Fa bs with
     | none=>simp [hr] at hp
     | some q2=>
      obtain ⟨ds,Fb⟩:=q2;simp only [hr,zJ,Prod.mk.injEq] at hp;obtain ⟨rfl,rfl⟩:=hp;obtain ⟨t,Ga,a1,a2,a3,a4,a5,a6⟩:=Af5 h (hf x (by simp)) ho;obtain ⟨mts,Gb,b1,b2,b3,b4⟩:=passMoves_ok bs (i+1) a5 hf.tail hr;refine ⟨some t::mts,Gb,by simp [a1,b1],⟨⟨x,rfl,a2⟩,hmd,a3,a4,b2⟩,?_,?_⟩
      ·refine { b3 with blk:=?_ };refine b3.blk.perm (List.Perm.append_left _ ?_);simp only [moved,List.append_assoc];exact List.perm_append_comm_assoc _ _ _
      ·refine Sub.trans (Sub.of_perm ?_) (b4.trans a6);refine List.Perm.append_left _ ?_;simp only [moved,List.append_assoc];exact List.perm_append_comm_assoc _ _ _
def CapsOK (M:Mem) (G:FT) (F:Fr) (E:Env) (c:Operand) (cv:List Value):Prop:=∀ (j:Nat) (d:D),(capsOf E F c)[j]? = some d->∃ v,cv[j]? = some v/\L1 M G d v
theorem argD_ok {E:Env} (h:Inv n R M F G H a w) {c:Operand} {cv:List Value} (hc:CapsOK M G F E c cv) {b:Arg} (hf:∀ x,b=.opn x->Fits n x) {d:D} (hd:argD E F c b=some d):VOK M G d (valA a cv b):=by
 cases b with
 | opn x=>exact h.opd (E:=E) (hf x rfl) hd
 | cap j=>
  simp only [argD] at hd;obtain ⟨v,hv,hl⟩:=hc j d hd;simp only [valA,List.getD_eq_getElem?_getD,hv,Option.getD_some];cases d with
  | fn f cs=>exact Abf (Am5 hl)
  | agg=>simp [L1,RI] at hl
  | own=>simp [L1,RI] at hl
  | _=>exact Abf (by simpa only [LOK] using hl)
theorem passRest_ok {E:Env} {f:Nat} (h:Inv n R M F G H a w) {F2:Fr} {c:Operand} {cv:List Value} (hc:CapsOK M G F E c cv) {Mc:Mem} (hM:M.le Mc) {x:Option T} {l:Option (Nat×Path)}
  (hx:∀ s ps,l=some (s,ps)->∃ y,x=some y/\(getT G s).getP ps=some y/\y.node=true/\y.tidy/\T.wf M y/\y.erase≠.undef)
  (hsnap:∀ d d',snapD F2 d=some d'->snapD F d=some d') :
  ∀ (bs:List Arg) (i:Nat) {mts:List (Option T)} {ds:List D},ArgFits n bs->MovedOK E f M a i bs mts->lentFrom E f F c i bs=some l∨lentFrom E f F c i bs=some none->passRest E f F F2 c (x.map T.erase) i bs (mts.map (Option.map T.erase))=some ds ->
   (∀ d∈snapSrcs E f F c i bs,(∃ d',snapD F2 d=some d')->∀ p∈d.ats,∀ y,(getT G p.1).getP p.2=some y->Has Mc y.blocks) ->
   ∃ ts,ts.map T.erase=ds/\T.vals ts=bs.map (valA a cv)/\(∀ t∈ts,t.tidy/\Giv Mc t) /\
    (lentFrom E f F c i bs=some none->Aav E f i ts=[]/\(T.blocksC ts).Perm (moved mts)) /\
    (∀ s ps y,lentFrom E f F c i bs=some (some (s,ps))->x=some y->Aav E f i ts=[y]/\(T.blocksC ts).Perm (moved mts++y.blocks))
 | [],i,mts,ds,_,hm,hl,hp,_=>by
  cases mts with
  | cons=>simp [MovedOK] at hm
  | nil=>
   simp only [List.map_nil,passRest,zJ] at hp;subst hp;refine ⟨[],rfl,rfl,by simp,fun _=>⟨rfl,by simp [T.blocksC,moved]⟩,fun s ps y hh _=>by simp [lentFrom] at hh⟩
 | b::bs,i,[],ds,_,hm,_,_,_=>by simp [MovedOK] at hm
 | b::bs,i,mt::mts,ds,hf,hm,hl,hp,hb=>by
  simp only [List.map_cons,passRest] at hp;have hbt:∀ d∈snapSrcs E f F c (i+1) bs,(∃ d',snapD F2 d=some d')->∀ p∈d.ats,∀ y,(getT G p.1).getP p.2=some y->Has Mc y.blocks:=fun d hd=>hb d (by simp only [snapSrcs];exact List.mem_cons_of_mem _ hd);cases hr:passRest E f F F2 c (x.map T.erase) (i+1) bs (mts.map (Option.map T.erase)) with
  | none=>
   rw [hr] at hp
   split at hp
   ·rename_i hq;cases hq
   ·cases hp
  | some ds'=>
   rw [hr] at hp;have hmt:MovedOK E f M a (i+1) bs mts:=by cases mt<;>simp only [MovedOK] at hm<;>first | exact hm.2 | exact hm.2.2.2.2
   by_cases hin:E.mode f i=.inout
   ·
    have hmn:mt=none:=by
     cases mt with
     | none=>rfl
     | some t=>simp only [MovedOK] at hm;rw [hin] at hm;exact absurd hm.2.1 (by simp)
    subst hmn;simp only [Option.map_none,hin,restOne] at hp;simp only [lentFrom,hin] at hl;have hlf:lentFrom E f F c i (b::bs)=lendAt (argD E F c b) (lentFrom E f F c (i+1) bs):=by rw [lentFrom,hin]
    cases had:argD E F c b with
    | none=>simp [had,lendAt] at hl
    | some d0=>
     cases d0 with
     | alias s0 p0=>
      rw [had] at hl;cases hlr:lentFrom E f F c (i+1) bs with
      | none=>simp [hlr,lendAt] at hl
      | some l'=>
       cases l' with
       | some q=>simp [hlr,lendAt] at hl
       | none=>
        simp only [hlr,lendAt,zJ] at hl;have hle:l=some (s0,p0):=by rcases hl with hl | hl;exact hl.symm;cases hl
        obtain ⟨y,hy,hy1,hyn,hyt,hyw,hyu⟩:=hx s0 p0 hle;subst hy;simp only [Option.map_some] at hp;simp only [zJ] at hp;subst hp;obtain ⟨ts,t1,t2,t3,t4,t5⟩:=passRest_ok h hc hM hx hsnap bs (i+1) hf.tail hmt (.inr hlr) hr hbt;obtain ⟨t6,t7⟩:=t4 hlr;have hval:y.val=valA a cv b:=by
         have:=argD_ok h hc (fun x hx=>hf x (by simp [hx])) had;obtain ⟨z,hz,_,hzv⟩:=this;rw [hy1] at hz;cases hz;exact hzv.symm
        refine ⟨y::ts,by simp [t1],by simp [T.vals,hval,t2],?_,fun hh=>?_,fun s ps z _ hz=>?_⟩
        ·intro t ht;rcases List.mem_cons.1 ht with rfl | ht
         ·exact ⟨hyt,(Aca hyw hyu).mono hM⟩
         ·exact t3 t ht
        ·rw [hlf,had,hlr] at hh;simp [lendAt] at hh
        ·cases hz;simp only [Aav,hin,if_true,t6,T.blocksC,moved];exact ⟨trivial,(List.Perm.append_left _ t7).trans List.perm_append_comm⟩
     | _=>simp [had,lendAt] at hl
   ·have hlf:lentFrom E f F c i (b::bs)=lentFrom E f F c (i+1) bs:=by simp only [lentFrom]
    rw [hlf] at hl;obtain ⟨ts,t1,t2,t3,t4,t5⟩:=passRest_ok h hc hM hx hsnap bs (i+1) hf.tail hmt hl hr hbt;have go:∀ (t:T),t.erase=ds.headD .undef->ds=t.erase::ds'->t.val=valA a cv b->t.tidy->Giv Mc t->(moved (mt::mts))=t.blocks++moved mts ->
      ∃ ts,ts.map T.erase=ds/\T.vals ts=(b::bs).map (valA a cv)/\(∀ t∈ts,t.tidy/\Giv Mc t) /\
       (lentFrom E f F c i (b::bs)=some none->Aav E f i ts=[]/\(T.blocksC ts).Perm (moved (mt::mts))) /\
       (∀ s ps y,lentFrom E f F c i (b::bs)=some (some (s,ps))->x=some y->Aav E f i ts=[y]/\(T.blocksC ts).Perm (moved (mt::mts)++y.blocks)):=fun t _ e1 e2 e3 e4 e5=>by
     refine ⟨t::ts,by rw [e1,List.map_cons,t1],by simp [T.vals,e2,t2],?_,fun hh=>?_,fun s ps y hh hy=>?_⟩
     ·intro u hu;rcases List.mem_cons.1 hu with rfl | hu
      ·exact ⟨e3,e4⟩
      ·exact t3 u hu
     ·rw [hlf] at hh;obtain ⟨t6,t7⟩:=t4 hh;simp only [Aav,hin,if_false,t6,T.blocksC,e5];exact ⟨trivial,List.Perm.append_left _ t7⟩
     ·rw [hlf] at hh;obtain ⟨t6,t7⟩:=t5 s ps y hh hy;simp only [Aav,hin,if_false,t6,T.blocksC,e5];refine ⟨trivial,?_⟩;rw [List.append_assoc];exact List.Perm.append_left _ t7
    cases mt with
    | some t=>
     simp only [MovedOK] at hm;obtain ⟨⟨y,rfl,hv⟩,_,ht,hg,_⟩:=hm;simp only [Option.map_some,restOne,zJ] at hp;subst hp;exact go t rfl rfl hv ht (hg.mono hM) (by simp [moved])
    | none=>
     simp only [Option.map_none] at hp;cases hmd:E.mode f i with
     | inout=>exact absurd hmd hin
     | move=>simp [hmd,restOne] at hp
     | snap=>
      simp only [hmd,restOne] at hp;cases had:argD E F c b with
      | none=>simp [had] at hp
      | some d=>
       simp only [had,Option.bind_some] at hp;cases hsd:snapD F2 d with
       | none=>simp [hsd] at hp
       | some d'=>
        simp only [hsd,zJ] at hp;subst hp;have hv:=argD_ok h hc (fun x hx=>hf x (by simp [hx])) had;obtain ⟨t,a1,a2,a3,a4,a5⟩:=snapD_ok h hM hv (hsnap d d' hsd) (hb d (by simp only [snapSrcs,hmd,had,Option.getD_some];exact List.mem_cons_self) ⟨d',hsd⟩);subst a1;exact go t rfl rfl a2 a3 a4 (by simp [moved,a5])
end
end Go.Own
namespace Go.Own
open D
section
variable {n:Nat} {R:Nat->Value} {M:Mem} {F F':Fr} {G:FT} {H:Blks} {a:Act} {w:World}
theorem Arn {E:Env} {f:Nat} {F:Fr} {c:Operand} {bs:List Arg} {a:Act} {G:FT} {M:Mem} {n:Nat} {R:Nat->Value} {H:Blks} {w:World} {cv:List Value} (hi:Inv n R M F G H a w) (hc:CapsOK M G F E c cv) (hf:ArgFits n bs) {s:Nat} {ps:Path} (h:lentFrom E f F c 0 bs=some (some (s,ps))) :
  ∃ y,(getT G s).getP ps=some y/\y.node=true:=by
 have:∀ (bs:List Arg) (i:Nat),ArgFits n bs->∀ s ps,lentFrom E f F c i bs=some (some (s,ps))->∃ y,(getT G s).getP ps=some y/\y.node=true:=by
  intro bs
  induction bs with
  | nil=>intro i _ s ps hh;simp [lentFrom] at hh
  | cons b bs ih=>
   intro i hf s ps hh;simp only [lentFrom] at hh
   split at hh
   ·cases had:argD E F c b with
    | none=>simp [had,lendAt] at hh
    | some d=>
     rw [had] at hh;unfold lendAt at hh
     split at hh
     ·rename_i s0 p0 he _;simp only [zJ,Prod.mk.injEq] at hh he;obtain ⟨rfl,rfl⟩:=hh;subst he;obtain ⟨y,hy,hyn,_⟩:=argD_ok hi hc (fun x hx=>hf x (by simp [hx])) had;exact ⟨y,hy,hyn⟩
     ·cases hh
   ·exact ih (i+1) hf.tail s ps hh
 exact this bs 0 hf s ps h
theorem Aom {E:Env} {f:Nat} {F F2:Fr} {c:Operand} {l:Option D} {M:Mem} {a:Act}:∀ (bs:List Arg) (i:Nat) {mts:List (Option T)} {ds:List D},MovedOK E f M a i bs mts->passRest E f F F2 c l i bs (mts.map (Option.map T.erase))=some ds->∀ d∈snapSrcs E f F c i bs,d=.undef∨∃ d',snapD F2 d=some d'
 | [],i,mts,ds,_,_,d,hd=>by simp [snapSrcs] at hd
 | b::bs,i,[],ds,hm,_,_,_=>by simp [MovedOK] at hm
 | b::bs,i,mt::mts,ds,hm,hp,d,hd=>by
  simp only [List.map_cons,passRest] at hp;have hmt:MovedOK E f M a (i+1) bs mts:=by cases mt<;>simp only [MovedOK] at hm<;>first | exact hm.2 | exact hm.2.2.2.2
  cases hr:passRest E f F F2 c l (i+1) bs (mts.map (Option.map T.erase)) with
  | none=>
   rw [hr] at hp
   split at hp
   ·rename_i hq;cases hq
   ·cases hp
  | some ds'=>
   rw [hr] at hp;simp only [snapSrcs,List.mem_cons] at hd;rcases hd with hd | hd
   ·subst hd
    split
    ·rename_i hmd;cases mt with
     | some t=>simp only [MovedOK] at hm;rw [hmd] at hm;exact absurd hm.2.1 (by simp)
     | none=>
      simp only [Option.map_none,hmd,restOne] at hp;cases had:argD E F c b with
      | none=>simp [had] at hp
      | some d=>
       simp only [had,Option.bind_some] at hp;cases hsd:snapD F2 d with
       | none=>simp [hsd] at hp
       | some d'=>right;exact ⟨d',by simpa using hsd⟩
    ·exact .inl rfl
   ·exact Aom bs (i+1) hmt hr d hd
theorem Au2 {G:FT} {s:Nat} {ps:Path} {y:T} (hy:(getT G s).getP ps=some y) {r:Blks} (hr:∀ x',x'.val=y.val->∃ t',(getT G s).setP ps x'=some t'/\t'.val=(getT G s).val/\(x'.blocks++r).Perm (Aa0 (Aa7 G s t')))
  {s':Nat} {p:Path} {z:T} (hz:(getT G s').getP p=some z) (hap:s'=s->Apart ps p):∀ b∈z.blocks,b∈r:=by
 obtain ⟨t',q1,q2,q3⟩:=hr (.leaf .undef y.val) rfl;have hz':(getT (Aa7 G s t') s').getP p=some z:=by
  by_cases hs:s'=s
  ·subst hs;rw [Abr,T.getP_apart ps q1 p (hap rfl)];exact hz
  ·rw [Aaq G t' hs];exact hz
 obtain ⟨rr,f1,_⟩:=Aeh hz';intro b hb;have h1:b∈Aa0 (Aa7 G s t'):=f1.mem_iff.1 (by simp [hb]);have h2:=q3.mem_iff.2 h1;simpa [T.blocks] using h2
theorem Ahs {M:Mem} {x:T} (hw:T.wf M x) (ht:x.tidy) (h:x.erase.node1=true):x.node=true:=by
 cases x with
 | leaf d v=>cases d<;>simp_all [T.tidy,T.erase,D.node1,T.node]
 | agg=>simp [T.wf] at hw
 | tup=>simp [T.wf] at hw
 | _=>rfl
theorem Avu (h:Inv n R M F G H a w) {M':Mem} {w':World} (hM:M.le M') (hmem:Aar M' w') {l:Option (Nat×Path)} {touts:List T} {t:T} {r:Blks} {x:Option T}
  (hx:∀ s ps,l=some (s,ps)->∃ y,x=some y/\(getT G s).getP ps=some y/\y.node=true/\(y.blocks++r).Perm (Aa0 G)/\∀ x',x'.val=y.val->∃ t',(getT G s).setP ps x'=some t'/\t'.val=(getT G s).val/\(x'.blocks++r).Perm (Aa0 (Aa7 G s t')))
  (hn:l=none->x=none/\r=Aa0 G) (hvals:T.vals touts=T.vals x.toList) (hout:∀ o∈touts,o.tidy/\T.wf M' o) (hblk:BlkOK M' w' (r++(t.blocks++T.blocksC touts))) {F4:Fr} (hg:giveBack F l (touts.map T.erase)=some F4) :
  ∃ G',Inv n R M' F4 G' (t.blocks++[]) a w'/\∀ g∈keys (Aa0 G'++(t.blocks++[])),g∈keys (r++(t.blocks++T.blocksC touts)):=by
 cases l with
 | none=>
  obtain ⟨rfl,rfl⟩:=hn rfl;simp only [Option.toList_none,T.vals] at hvals;have ht:touts=[]:=by
   have:=congrArg List.length hvals;simp at this;exact this
  subst ht;simp only [List.map_nil,giveBack,zJ] at hg;subst hg;simp only [T.blocksC] at hblk ⊢;exact ⟨G,h.world hM hblk hmem,fun g hg=>hg⟩
 | some q=>
  obtain ⟨s,ps⟩:=q;obtain ⟨y,rfl,hy,hyn,hr1,hr2⟩:=hx s ps rfl;simp only [Option.toList_some,T.vals] at hvals
  match touts,hvals,hout,hblk,hg with
  | [],hvals,_,_,_=>simp [T.vals] at hvals
  | _::_::_,hvals,_,_,_=>simp [T.vals] at hvals
  | [x'],hvals,hout,hblk,hg=>
   simp only [T.vals,List.cons.injEq,and_true] at hvals;obtain ⟨hxt,hxw⟩:=hout x' (by simp);simp only [List.map_cons,List.map_nil,giveBack] at hg
   split at hg
   case isFalse=>cases hg
   rename_i hn1;obtain ⟨t',q1,q2,q3⟩:=hr2 x' hvals;have hperm:(r++(t.blocks++T.blocksC [x'])).Perm (Aa0 (Aa7 G s t')++(t.blocks++[])):=by
    simp only [T.blocksC,List.append_nil];refine List.Perm.trans ?_ (q3.append_right t.blocks);refine List.perm_append_comm.trans ?_;rw [List.append_assoc];refine List.perm_append_comm.trans ?_;simp only [List.append_assoc];exact List.Perm.refl _
   obtain ⟨F1,k1,k2⟩:=h.path hM q1 q2 (deadIn s ps) (Alh hy q1 (fun _=>⟨Ahs hxw hxt hn1,hvals⟩)) hxt hxw (Aaz hy hyn) (hblk.perm hperm) hmem;rw [k1] at hg;simp only [Option.map_some,zJ] at hg;subst hg;refine ⟨_,k2,fun g hg=>?_⟩;rw [Aay] at hg;exact (hperm.symm.map Prod.fst).mem_iff.1 hg
def Atv (n:Nat) (R:Nat->Value) (M:Mem) (B:List Nat) (w:World) (F4:Fr) (r:D) (a:Act) (e:Ending) (w':World):Prop:=
 ∃ M' G' t,e=.returned t.val/\t.erase=r/\t.tidy/\Acp M' t/\Inv n R M' F4 G' (t.blocks++[]) a w'/\Evo M B w M' (keys (Aa0 G'++(t.blocks++[]))) w'
theorem Ban {E:Env} {call:Nat->List D->Option (D×List D)} (hcall:Abq E call) (hgd:Good E M) (h:Inv n R M F G [] a w) {g:Nat} {c:Operand} (hcf:Fits n c) {bs:List Arg} (hbf:ArgFits n bs) {r:D} {F4:Fr} (hc:callC E call F g c bs=some (r,F4))
  {cv:List Value} (hcv:a.eval c=.func (.func g) #[] cv.toArray) :
  Does E.P g (bs.map (valA a cv)).toArray w (Atv n R M (keys (Aa0 G)) w F4 r a):=by
 simp only [callC] at hc;cases hpm:passMoves E g 0 F bs with
 | none=>simp [hpm] at hc
 | some q=>
 obtain ⟨ms,F1⟩:=q;simp only [hpm] at hc;cases hlf:lentFrom E g F1 c 0 bs with
 | none=>simp [hlf] at hc
 | some l=>
 simp only [hlf] at hc;cases hho:holeC F1 l with
 | none=>simp [hho] at hc
 | some q2=>
 obtain ⟨ld,F2⟩:=q2;simp only [hho] at hc;cases hpr:passRest E g F1 F2 c ld 0 bs ms with
 | none=>simp [hpr] at hc
 | some ds=>
 simp only [hpr] at hc;cases hcl:call g ds with
 | none=>simp [hcl] at hc
 | some q3=>
 obtain ⟨r',outs⟩:=q3;simp only [hcl] at hc;obtain ⟨mts,G1,hmts,hmok,h1,hsub1⟩:=passMoves_ok bs 0 h hbf hpm;subst hmts;have hcaps:CapsOK M G1 F1 E c cv:=by
  intro j d hd;unfold capsOf at hd;cases hop:opd E F1 c with
  | none=>simp [hop] at hd
  | some d0=>
   have hv:=h1.opd hcf hop;cases d0 with
   | fn f' cs=>
    simp only [hop] at hd;obtain ⟨vs,hv1,hv2⟩:=hv;rw [hcv] at hv1;simp only [Value.func.injEq,Fn.func.injEq] at hv1;have:cv=vs:=by have:=hv1.2.2;simpa using congrArg Array.toList this
    rw [this];exact hv2.get hd
   | _=>simp [hop] at hd
 obtain ⟨x,hld,hsnap,hxl,hxn,hap⟩:∃ x:Option T,ld=x.map T.erase/\(∀ d d',snapD F2 d=some d'->snapD F1 d=some d') /\
   (∀ s ps,l=some (s,ps)->∃ y,x=some y/\(getT G1 s).getP ps=some y/\y.node=true/\y.tidy/\T.wf M y/\y.erase≠.undef)/\(l=none->x=none) /\
   (∀ d d',snapD F2 d=some d'->∀ s ps,l=some (s,ps)->∀ p∈d.ats,p.1=s->Apart ps p.2):=by
  cases l with
  | none=>
   simp only [holeC,zJ,Prod.mk.injEq] at hho;obtain ⟨rfl,rfl⟩:=hho;exact ⟨none,rfl,fun _ _ hh=>hh,fun _ _ hh=>(by cases hh),fun _=>rfl,fun _ _ _ _ _ hh=>(by cases hh)⟩
  | some q=>
   obtain ⟨s,ps⟩:=q;obtain ⟨y,hy,hyn⟩:=Arn h1 hcaps hbf hlf;simp only [holeC,h1.getAt,hy,Option.map_some] at hho
   split at hho
   case isFalse=>cases hho
   rename_i hex;cases hsa:Own.setAt F1 s ps .undef with
   | none=>simp [hsa] at hho
   | some Fh=>
    simp only [hsa,Option.map_some,zJ,Prod.mk.injEq] at hho;obtain ⟨rfl,rfl⟩:=hho;refine ⟨some y,rfl,fun d d' hh=>(snapD_hole hsa hh).1,fun s' ps' hh=>?_,fun hh=>(by cases hh),fun d d' hh s' ps' hl=>?_⟩
    ·cases hh;exact ⟨y,rfl,hy,hyn,h1.node_tidy hy,h1.node_wf hy hyn,fun hu=>by rw [hu] at hex;simp [D.ex1] at hex⟩
    ·cases hl;exact (snapD_hole hsa hh).2
 subst hld;have fin:∀ (M3:Mem) (F3:Fr) (G3:FT) (Mc:Mem) (r3:Blks),Inv n R M3 F3 G3 (moved mts++[]) a w->M.le M3 ->
   (∀ s ps,l=some (s,ps)->∃ y,x=some y/\(getT G3 s).getP ps=some y/\y.node=true/\(y.blocks++r3).Perm (Aa0 G3)/\∀ x',x'.val=y.val->∃ t',(getT G3 s).setP ps x'=some t'/\t'.val=(getT G3 s).val/\(x'.blocks++r3).Perm (Aa0 (Aa7 G3 s t'))) ->
   (l=none->r3=Aa0 G3)->(∀ k∈keys (Aa0 G3),k∈keys (Aa0 G1)) ->
   M.le Mc->Aar Mc w->(∀ ts:List T,(T.blocksC ts).Perm (moved mts++(x.map T.blocks).getD [])->BlkOK Mc w (T.blocksC ts)) ->
   (∀ d∈snapSrcs E g F1 c 0 bs,(∃ d',snapD F2 d=some d')->∀ p∈d.ats,∀ y,(getT G1 p.1).getP p.2=some y->Has Mc y.blocks) ->
   giveBack F3 l outs=some F4->r'=r ->
   (∀ (w':World) (M':Mem) (t:T) (touts:List T) (K:List Nat),t.erase=r->touts.map T.erase=outs->t.tidy->(∀ o∈touts,o.tidy)->Acp M' t->(∀ o∈touts,T.wf M' o)->BlkOK M' w' (t.blocks++T.blocksC touts)->Aar M' w'->(∀ k,k∈K↔k∈keys (moved mts++(x.map T.blocks).getD []))->Evo Mc K w M' (keys (t.blocks++T.blocksC touts)) w' ->
    ∃ Mf,M3.le Mf/\Acp Mf t/\(∀ o∈touts,T.wf Mf o)/\BlkOK Mf w' (r3++(t.blocks++T.blocksC touts))/\Aar Mf w'/\Evo M (keys (Aa0 G)) w Mf (keys (r3++(t.blocks++T.blocksC touts))) w') ->
   Does E.P g (bs.map (valA a cv)).toArray w (Atv n R M (keys (Aa0 G)) w F4 r a):=by
  intro M3 F3 G3 Mc r3 i3 hM3 hx3 hn3 hk3 hMc hmc hblkc hbc hgb hrr after;obtain ⟨ts,t1,t2,t3,t4,t5⟩:=passRest_ok h1 hcaps hMc hxl hsnap bs 0 hbf hmok (.inl hlf) hpr hbc;have hlts:T.vals (Aav E g 0 ts)=T.vals x.toList/\(T.blocksC ts).Perm (moved mts++(x.map T.blocks).getD [])/\(∀ t∈Aav E g 0 ts,t.node=true):=by
   cases l with
   | none=>
    obtain ⟨t6,t7⟩:=t4 hlf;have:=hxn rfl;subst this;exact ⟨by rw [t6];rfl,by simpa using t7,by rw [t6];simp⟩
   | some q=>
    obtain ⟨s,ps⟩:=q;obtain ⟨y,rfl,_,hyn,_⟩:=hxl s ps rfl;obtain ⟨t6,t7⟩:=t5 s ps y hlf rfl;exact ⟨by rw [t6];rfl,by simpa using t7,by rw [t6];simpa using hyn⟩
  have hfn:=hcall g ds r' outs hcl Mc w ts t1 t3 hlts.2.2 (hblkc ts hlts.2.1) hmc (hgd.mono hMc);rw [t2] at hfn;refine hfn.mono ?_;rintro e w' ⟨M',t,touts,rfl,he1,he2,he3,he4,he5,he6,he7,he8,he9⟩;rw [hrr] at he1;obtain ⟨Mf,f1,f2,f3,f4,f5,f6⟩:=after w' M' t touts (keys (T.blocksC ts)) he1 he4 he2 (fun o ho=>(he5 o ho).1) he3 (fun o ho=>(he5 o ho).2) he7 he8 (fun k=>(hlts.2.1.map Prod.fst).mem_iff) he9;rw [hlts.1] at he6;rw [← he4] at hgb;obtain ⟨G',g1,g2⟩:=Avu i3 f1 f5 hx3 (fun hh=>⟨hxn hh,hn3 hh⟩) he6 (fun o ho=>⟨(he5 o ho).1,f3 o ho⟩) f4 hgb;exact ⟨Mf,G',t,rfl,he1,he2,f2,g1,f6.weaken g2⟩
 have hkeys1:∀ k∈keys (Aa0 G1++moved mts),k∈keys (Aa0 G):=fun k hk=>by
  have:=hsub1 k (by simpa [keys] using hk);simpa [keys] using this
 by_cases hfl:(r'.flatR&&outs.all flat)=true
 ·simp only [hfl,if_true] at hc;cases hgb:giveBack F1 l outs with
  | none=>simp [hgb] at hc
  | some F5=>
  simp only [hgb,Option.map_some,zJ,Prod.mk.injEq] at hc;obtain ⟨rfl,rfl⟩:=hc;simp only [Bool.and_eq_true,List.all_eq_true] at hfl;obtain ⟨r3,hr3,hr3n,hperm⟩:∃ r3:Blks,(∀ s ps,l=some (s,ps)->∃ y,x=some y/\(getT G1 s).getP ps=some y/\y.node=true/\(y.blocks++r3).Perm (Aa0 G1)/\∀ x',x'.val=y.val->∃ t',(getT G1 s).setP ps x'=some t'/\t'.val=(getT G1 s).val/\(x'.blocks++r3).Perm (Aa0 (Aa7 G1 s t')))/\(l=none->r3=Aa0 G1)/\(((moved mts++(x.map T.blocks).getD [])++r3).Perm (Aa0 G1++(moved mts++[]))):=by
   cases l with
   | none=>
    have:=hxn rfl;subst this;exact ⟨Aa0 G1,fun _ _ hh=>(by cases hh),fun _=>rfl,by simpa using List.perm_append_comm⟩
   | some q=>
    obtain ⟨s,ps⟩:=q;obtain ⟨y,rfl,hy,hyn,_⟩:=hxl s ps rfl;obtain ⟨r0,p1,p2⟩:=Aeh hy;refine ⟨r0,fun s' ps' hh=>?_,fun hh=>(by cases hh),?_⟩
    ·cases hh;exact ⟨y,rfl,hy,hyn,p1,p2⟩
    ·simp only [Option.map_some,Option.getD_some,List.append_assoc,List.append_nil];exact (List.Perm.append_left _ p1).trans List.perm_append_comm
  have hall:=h1.blk.perm hperm.symm;have hr3B:∀ k∈keys r3,k∈keys (Aa0 G1):=fun k hk=>by
   cases l with
   | none=>rw [hr3n rfl] at hk;exact hk
   | some q=>
    obtain ⟨y,_,_,_,p1,_⟩:=hr3 q.1 q.2 rfl;exact (p1.map Prod.fst).mem_iff.1 (by rw [List.map_append];exact List.mem_append_right _ hk)
  refine fin M F1 G1 (M.withK (keys r3) w) r3 h1 (Mem.le_refl M) hr3 hr3n (fun k hk=>hk) (Mem.le_withK hall.right (fun k hk=>hk)) (h1.mem.withK _) (fun ts hts=>(hall.perm (List.Perm.append_right _ hts.symm)).withK) ?_ hgb rfl ?_
  ·intro d hd hex p hp y hy;obtain ⟨d',hd'⟩:=hex;have hin:∀ b∈y.blocks,b∈r3:=by
    cases l with
    | none=>
     rw [hr3n rfl];obtain ⟨rr,f1,_⟩:=Aeh hy;exact fun b hb=>f1.mem_iff.1 (by simp [hb])
    | some q=>
     obtain ⟨z,_,hz,_,_,p2⟩:=hr3 q.1 q.2 rfl;exact Au2 hz p2 hy (fun hs=>hap d d' hd' q.1 q.2 rfl p hp hs)
   have hh:Has (M.withK (keys r3) w) r3:=hall.right.has (fun b hb=>hb);exact fun b hb=>hh b (hin b hb)
  ·intro w' M' t touts K ht hto htt htot hres hwo hblk' hmem' hK hev;refine ⟨M'.minus (keys r3),?_,?_,?_,?_,?_,?_⟩
   ·intro k o hk;simp only [Mem.minus];rw [if_neg]
    ·exact hev.memle _ _ (Mem.le_withK hall.right (fun k hk=>hk) _ _ hk)
    ·intro hk';obtain ⟨b,hb,rfl⟩:=List.mem_map.1 hk';have:=hall.right.apart b hb;rw [this] at hk;cases hk
   ·exact flatR_Res htt (by rw [ht];exact hfl.1) hres
   ·intro o ho;exact Arf o (htot o ho) (hfl.2 _ (by rw [← hto];exact List.mem_map.2 ⟨o,ho,rfl⟩)) (hwo o ho)
   ·constructor
    ·rw [List.map_append,List.nodup_append];refine ⟨hall.right.nodup,hblk'.nodup,?_⟩;rintro k hk1 k2 hk2 rfl;have hks:k<w.heap.size:=by
      obtain ⟨b,hb,rfl⟩:=List.mem_map.1 hk1;exact hall.right.lt hb
     rcases hev.own k hk2 with h1' | h1'
     ·have:=hall.nodup;rw [List.map_append,List.nodup_append] at this;exact this.2.2 k ((hK k).1 h1') k hk1 rfl
     ·omega
    ·intro b hb;rcases List.mem_append.1 hb with hb | hb
     ·rw [hev.out b.1 (hall.right.lt hb) (fun hk=>by
       have:=hall.nodup;rw [List.map_append,List.nodup_append] at this
       exact this.2.2 b.1 ((hK b.1).1 hk) b.1 (List.mem_map.2 ⟨b,hb,rfl⟩) rfl)]
      exact hall.right.heap b hb
     ·exact hblk'.heap b hb
    ·intro b hb;simp only [Mem.minus]
     split
     ·rfl
     ·rename_i hnk;rcases List.mem_append.1 hb with hb | hb
      ·exact absurd (List.mem_map.2 ⟨b,hb,rfl⟩) hnk
      ·exact hblk'.apart b hb
   ·intro k o hk;simp only [Mem.minus] at hk
    split at hk
    ·cases hk
    ·exact hmem' k o hk
   ·have hKB:∀ k∈K,k∈keys (Aa0 G):=fun k hk=>hkeys1 k (by
     have h2:=(hK k).1 hk;have h3:k∈((moved mts++(x.map T.blocks).getD [])++r3).map Prod.fst:=by rw [List.map_append];exact List.mem_append_left _ h2
     have:=(hperm.map Prod.fst).mem_iff.1 h3
     simpa [keys] using this)
    constructor
    ·exact hev.os
    ·exact hev.tape
    ·exact hev.output
    ·exact hev.size
    ·intro k hk hkB;exact hev.out k hk (fun hh=>hkB (hKB k hh))
    ·intro k o hk;simp only [Mem.minus];rw [if_neg]
     ·exact hev.memle _ _ (Mem.le_withK hall.right (fun k hk=>hk) _ _ hk)
     ·intro hk';obtain ⟨b,hb,rfl⟩:=List.mem_map.1 hk';have:=hall.right.apart b hb;rw [this] at hk;cases hk
    ·intro k o hk;simp only [Mem.minus] at hk
     split at hk
     ·cases hk
     ·rename_i hnk;rcases hev.memnew k o hk with h2 | h2 | h2
      ·simp only [Mem.withK] at h2;rw [if_neg hnk] at h2;exact .inl h2
      ·exact .inr (.inl (hKB k h2))
      ·exact .inr (.inr h2)
    ·intro k hk;simp only [keys,List.map_append,List.mem_append] at hk;rcases hk with hk | hk
     ·exact .inl (hkeys1 k (by simp only [keys,List.map_append,List.mem_append];exact .inl (hr3B k hk)))
     ·rcases hev.own k (by simp only [keys,List.map_append,List.mem_append];exact hk) with h2 | h2
      ·exact .inl (hKB k h2)
      ·exact .inr h2
 ·simp only [hfl] at hc;simp only [Bool.false_eq_true,if_false] at hc;cases hfz:frzAll F1 (snapSrcs E g F1 c 0 bs) with
  | none=>simp [hfz] at hc
  | some F3=>
  simp only [hfz] at hc;cases hgb:giveBack F3 l outs with
  | none=>simp [hgb] at hc
  | some F5=>
  simp only [hgb,Option.map_some,zJ,Prod.mk.injEq] at hc;obtain ⟨rfl,rfl⟩:=hc;obtain ⟨M3,G3,i3,fz,fthere,fhas,fstay⟩:=Aso h1 hfz;have hsrc:=Aom bs 0 hmok hpr;obtain ⟨r3,hr3,hr3n,hperm⟩:∃ r3:Blks,(∀ s ps,l=some (s,ps)->∃ y,x=some y/\(getT G3 s).getP ps=some y/\y.node=true/\(y.blocks++r3).Perm (Aa0 G3)/\∀ x',x'.val=y.val->∃ t',(getT G3 s).setP ps x'=some t'/\t'.val=(getT G3 s).val/\(x'.blocks++r3).Perm (Aa0 (Aa7 G3 s t')))/\(l=none->r3=Aa0 G3)/\(((moved mts++(x.map T.blocks).getD [])++r3).Perm (Aa0 G3++(moved mts++[]))):=by
   cases l with
   | none=>
    have:=hxn rfl;subst this;exact ⟨Aa0 G3,fun _ _ hh=>(by cases hh),fun _=>rfl,by simpa using List.perm_append_comm⟩
   | some q=>
    obtain ⟨s,ps⟩:=q;obtain ⟨y,rfl,hy,hyn,_⟩:=hxl s ps rfl;have hy3:=fstay s ps y hy hyn (fun q hq hs=>by
     rw [List.mem_flatMap] at hq;obtain ⟨d,hd,hqd⟩:=hq;rcases hsrc d hd with rfl | ⟨d',hd'⟩
     ·simp [D.ats,D.at1] at hqd
     ·have:=hap d d' hd' s ps rfl q hqd hs
      exact ⟨this.2,this.1⟩)
    obtain ⟨r0,p1,p2⟩:=Aeh hy3;refine ⟨r0,fun s' ps' hh=>?_,fun hh=>(by cases hh),?_⟩
    ·cases hh;exact ⟨y,rfl,hy3,hyn,p1,p2⟩
    ·simp only [Option.map_some,Option.getD_some,List.append_assoc,List.append_nil];exact (List.Perm.append_left _ p1).trans List.perm_append_comm
  have hall:=i3.blk.perm hperm.symm;have hr3B:∀ k∈keys r3,k∈keys (Aa0 G3):=fun k hk=>by
   cases l with
   | none=>rw [hr3n rfl] at hk;exact hk
   | some q=>
    obtain ⟨y,_,_,_,p1,_⟩:=hr3 q.1 q.2 rfl;exact (p1.map Prod.fst).mem_iff.1 (by rw [List.map_append];exact List.mem_append_right _ hk)
  refine fin M3 F3 G3 M3 r3 i3 fz.le hr3 hr3n fz.sub fz.le i3.mem (fun ts hts=>(hall.perm (List.Perm.append_right _ hts.symm)).left) (fun d hd _ p hp y hy=>fhas d hd p hp y hy) hgb rfl ?_;intro w' M' t touts K ht hto htt htot hres hwo hblk' hmem' hK hev;have hKB:∀ k∈K,k∈keys (Aa0 G):=fun k hk=>hkeys1 k (by
   have h2:=(hK k).1 hk;have h3:k∈((moved mts++(x.map T.blocks).getD [])++r3).map Prod.fst:=by rw [List.map_append];exact List.mem_append_left _ h2
   have h4:=(hperm.map Prod.fst).mem_iff.1 h3;simp only [keys,List.map_append,List.mem_append,List.append_nil] at h4 ⊢;rcases h4 with h4 | h4
   ·exact .inl (fz.sub k h4)
   ·exact .inr h4)
  refine ⟨M',hev.memle,hres,hwo,?_,hmem',?_⟩
  ·constructor
   ·rw [List.map_append,List.nodup_append];refine ⟨hall.right.nodup,hblk'.nodup,?_⟩;rintro k hk1 k2 hk2 rfl;have hks:k<w.heap.size:=by
     obtain ⟨b,hb,rfl⟩:=List.mem_map.1 hk1;exact hall.right.lt hb
    rcases hev.own k hk2 with h1' | h1'
    ·have:=hall.nodup;rw [List.map_append,List.nodup_append] at this;exact this.2.2 k ((hK k).1 h1') k hk1 rfl
    ·omega
   ·intro b hb;rcases List.mem_append.1 hb with hb | hb
    ·rw [hev.out b.1 (hall.right.lt hb) (fun hk=>by
      have:=hall.nodup;rw [List.map_append,List.nodup_append] at this
      exact this.2.2 b.1 ((hK b.1).1 hk) b.1 (List.mem_map.2 ⟨b,hb,rfl⟩) rfl)]
     exact hall.right.heap b hb
    ·exact hblk'.heap b hb
   ·intro b hb;rcases List.mem_append.1 hb with hb | hb
    ·cases hm:M' b.1 with
     | none=>rfl
     | some o=>
      exfalso;rcases hev.memnew b.1 o hm with h2 | h2 | h2
      ·have:=hall.right.apart b hb;rw [this] at h2;cases h2
      ·have:=hall.nodup;rw [List.map_append,List.nodup_append] at this;exact this.2.2 b.1 ((hK b.1).1 h2) b.1 (List.mem_map.2 ⟨b,hb,rfl⟩) rfl
      ·have:=hall.right.lt hb;omega
    ·exact hblk'.apart b hb
  ·constructor
   ·exact hev.os
   ·exact hev.tape
   ·exact hev.output
   ·exact hev.size
   ·intro k hk hkB;exact hev.out k hk (fun hh=>hkB (hKB k hh))
   ·exact Mem.le_trans fz.le hev.memle
   ·intro k o hk;rcases hev.memnew k o hk with h2 | h2 | h2
    ·rcases fz.new k o h2 with h3 | h3
     ·exact .inl h3
     ·exact .inr (.inl (hkeys1 k (by simp only [keys,List.map_append,List.mem_append];exact .inl h3)))
    ·exact .inr (.inl (hKB k h2))
    ·exact .inr (.inr h2)
   ·intro k hk;simp only [keys,List.map_append,List.mem_append] at hk;rcases hk with hk | hk
    ·exact .inl (hkeys1 k (by simp only [keys,List.map_append,List.mem_append];exact .inl (fz.sub k (hr3B k hk))))
    ·rcases hev.own k (by simp only [keys,List.map_append,List.mem_append];exact hk) with h2 | h2
     ·exact .inl (hKB k h2)
     ·exact .inr h2
end
end Go.Own
namespace Go.Own
open D
def Atw (n:Nat) (o:Oper):Prop:=(∀ x∈o.op.operands.toList,Fits n x)/\∀ d,o.dst=some d->d<n
section
variable {n:Nat} {R:Nat->Value} {M:Mem} {F F':Fr} {G:FT} {H:Blks} {a:Act} {w:World}
theorem Aa8 {P:Program} {o:Oper} {a:Act} {w w':World} {v:Value} {K:Act->World->Prop} {Q:Exit->Act->World->Prop} (h:(execOp a.eval o).run P w=.ok (.value v) w') (k:K (a.put o.dst v) w'):o.wp P a w K Q:=by
 unfold Oper.wp;rw [h];exact k
theorem Alu {P:Program} {o:Oper} {a:Act} {w w':World} {K:Act->World->Prop} {Q:Exit->Act->World->Prop} (h:(execOp a.eval o).run P w=.ok .skip w') (k:K (a.put o.dst undef) w'):o.wp P a w K Q:=by
 unfold Oper.wp;rw [h];exact k
theorem Ba2 (a:Act) (xs:List Operand) (cv:List Value):(argsOf xs cv.length).map (valA a cv)=xs.map a.eval++cv:=by
 unfold argsOf;rw [List.map_append,List.map_map,List.map_map];congr 1;apply List.ext_getElem?;intro i;simp only [List.getElem?_map];by_cases hi:i<cv.length
 ·rw [List.getElem?_range hi,List.getElem?_eq_getElem hi];simp [Function.comp,valA,List.getElem?_eq_getElem hi]
 ·rw [List.getElem?_eq_none (by simpa using hi),List.getElem?_eq_none (by omega)];rfl
theorem Aq3 {M M':Mem} (hM:M.le M') {t:T} (ht:t.tidy) (hg:Giv M t) (hb:Has M' t.blocks) {d':D} (h:t.erase.freeze=some d'):∃ t2:T,t2.erase=d'/\t2.val=t.val/\t2.tidy/\Giv M' t2/\t2.blocks=[]:=by
 have leaf:RI M' d' t.val->∃ t2:T,t2.erase=d'/\t2.val=t.val/\t2.tidy/\Giv M' t2/\t2.blocks=[]:=fun k=>by
  refine ⟨.leaf d' t.val,by simp [T.erase],by simp [T.val],?_,k,by simp [T.blocks]⟩;cases d'<;>simp_all [T.tidy,RI]
 cases t with
 | leaf d v=>
  simp only [T.erase,Ag6 d v hg,zJ] at h;subst h;exact leaf (RI.mono hM _ _ hg)
 | agg cs=>
  simp only [T.erase,D.freeze,Option.map_eq_some_iff] at h;obtain ⟨cs',h,rfl⟩:=h;have hr:=freezeC_ok hM cs ht hg (by simpa [T.blocks] using hb) cs' h;obtain ⟨ts,a1,a2,a3,a4,a5⟩:=Aer hr;have hbl:T.blocksC ts=[]:=by rw [T.blocksC_eq,List.flatMap_eq_nil_iff];exact a5
  exact ⟨.agg ts,by simp [T.erase,T.eraseC_eq,a1],by simp [T.val,a2],a3,a4,by simp [T.blocks,hbl]⟩
 | tup=>exact hg.elim
 | own g cap e sp es=>exact leaf (freeze_ok hM _ ht hg hb d' h)
 | nil=>exact leaf (freeze_ok hM _ ht hg hb d' h)
 | box g e cs=>exact leaf (freeze_ok hM _ ht hg hb d' h)
 | map=>simp [T.erase,D.freeze] at h
 | bld=>simp [T.erase,D.freeze] at h
theorem Ao9 {M M':Mem} (hM:M.le M'):∀ {ts:List T} {ds:List D},T.tidyC ts->(∀ t∈ts,Giv M t)->Has M' (T.blocksC ts)->D.freezeCs (T.eraseC ts)=some ds->∃ us:List T,us.map T.erase=ds/\T.vals us=T.vals ts/\T.tidyC us/\(∀ t∈us,Giv M' t)/\T.blocksC us=[]
 | [],ds,_,_,_,h=>by
  simp only [T.eraseC,D.freezeCs,zJ] at h;subst h;exact ⟨[],rfl,rfl,trivial,by simp,by simp [T.blocksC]⟩
 | t::ts,ds,ht,hg,hb,h=>by
  simp only [T.eraseC,D.freezeCs] at h
  split at h
  ·rename_i c' cs' h1 h2;simp only [zJ] at h;subst h;simp only [T.blocksC] at hb;obtain ⟨u,a1,a2,a3,a4,a5⟩:=Aq3 hM ht.1 (hg t (by simp)) hb.left h1;obtain ⟨us,b1,b2,b3,b4,b5⟩:=Ao9 hM ht.2 (fun x hx=>hg x (by simp [hx])) hb.right h2;refine ⟨u::us,by simp [a1,b1],by simp [T.vals,a2,b2],⟨a3,b3⟩,?_,by simp [T.blocksC,a5,b5]⟩;intro x hx;rcases List.mem_cons.1 hx with rfl | hx
   ·exact a4
   ·exact b4 x hx
  ·cases h
theorem Ao8 {B:List Nat} {w w1:World} {M0 M':Mem} {F1:Fr} {G1:FT} {t:T} (h:Inv n R M' F1 G1 (t.blocks++[]) a w1) (ht:t.tidy) (hs:Acp M' t) (dst:Option Nat) (hd:∀ d,dst=some d->d<n) {b:Bool} {d':D} (hc:coldD b t.erase=some d')
  (e:Evo M0 B w M' (keys (Aa0 G1++(t.blocks++[]))) w1):Post n R M0 B w (fin F1 dst d') (a.put dst t.val) w1:=by
 cases b with
 | false=>
  simp only [coldD,Bool.false_eq_true,if_false,zJ] at hc;subst hc;exact Ace h ht (Am7 hs) dst hd e
 | true=>
  simp only [coldD,if_true] at hc;rw [List.append_nil] at h e
  let M2:Mem:=M'.withK (keys t.blocks) w1
  have hM:M'.le M2:=Mem.le_withK h.blk.right (fun k hk=>hk);have hhas:Has M2 t.blocks:=h.blk.right.has (fun b hb=>hb);have h2:Inv n R M2 F1 G1 [] a w1:=h.world hM (by rw [List.append_nil];exact h.blk.withK) (h.mem.withK _);have e2:Evo M0 B w M2 (keys (Aa0 G1)) w1:=
   {e with
    memle:=Mem.le_trans e.memle hM
    memnew:=fun g o hg=>by
     simp only [M2,Mem.withK] at hg
     split at hg
     ·rename_i hk;exact .inr (e.own g (by simp only [keys,List.map_append,List.mem_append];exact .inr hk))
     ·exact e.memnew g o hg
    own:=fun g hg=>e.own g (by simp only [keys,List.map_append,List.mem_append];exact .inl hg) }
  obtain ⟨t2,a1,a2,a3,a4,a5⟩:∃ t2:T,t2.erase=d'/\t2.val=t.val/\t2.tidy/\Acp M2 t2/\t2.blocks=[]:=by
   have one:∀ {t:T},t.tidy->Giv M' t->Has M2 t.blocks->t.erase.freeze=some d'->∃ t2:T,t2.erase=d'/\t2.val=t.val/\t2.tidy/\Acp M2 t2/\t2.blocks=[]:=fun h1 h2 h3 h4=>by
    obtain ⟨t2,b1,b2,b3,b4,b5⟩:=Aq3 hM h1 h2 h3 h4;refine ⟨t2,b1,b2,b3,?_,b5⟩;cases t2<;>first | exact b4 | exact b4.elim
   cases t with
   | tup ts=>
    simp only [T.erase,Option.map_eq_some_iff] at hc;obtain ⟨ds,hc,rfl⟩:=hc;obtain ⟨us,b1,b2,b3,b4,b5⟩:=Ao9 hM ht hs (by simpa [T.blocks] using hhas) hc;exact ⟨.tup us,by simp [T.erase,T.eraseC_eq,b1],by simp [T.val,b2],b3,b4,by simp [T.blocks,b5]⟩
   | leaf d v=>
    refine one (t:=.leaf d v) ht hs hhas ?_;simp only [T.erase] at hc ⊢;cases d<;>first | exact hc | (simp [T.tidy] at ht)
   | agg cs=>exact one (t:=.agg cs) ht hs hhas hc
   | own g cap e' sp es=>exact one (t:=.own g cap e' sp es) ht hs hhas hc
   | nil=>exact one (t:=.nil) ht hs hhas hc
   | box g e' cs=>exact one (t:=.box g e' cs) ht hs hhas hc
   | map r c es=>exact one (t:=.map r c es) ht hs hhas hc
   | bld v0 bs0 t0 e0 l0=>exact one (t:=.bld v0 bs0 t0 e0 l0) ht hs hhas hc
  have:=Ace (M:=M0) (w:=w) (B:=B) (t:=t2) (by rw [a5];exact h2) a3 (Am7 a4) dst hd (by rw [a5];simpa using e2);rw [a1,a2] at this;exact this
set_option maxHeartbeats 1000000 in
theorem Av0 {E:Env} {f:Nat} {V:List Nat} {call:Nat->List D->Option (D×List D)} (hcall:Abq E call) (hgd:Good E M) (h:Inv n R M F G [] a w) {o:Oper} (hfit:Atw n o) (hop:opC E f V call F o=some F')
  {K:Act->World->Prop} {Q:Exit->Act->World->Prop} (hK:∀ a' w',Post n R M (keys (Aa0 G)) w F' a' w'->K a' w'):o.wp E.P a w K Q:=by
 obtain ⟨hx,hd⟩:=hfit;unfold opC at hop;cases hq:o.op with
 | move x=>
  rw [hq] at hop hx;exact Aa8 (v:=a.eval x) (w':=w) (by simp only [execOp,hq,Sem.run_pure]) (hK _ _ (Bdi h (hx x (by simp [Op.operands])) o.dst hd hop))
 | assign x=>
  rw [hq] at hop hx;exact Aa8 (v:=a.eval x) (w':=w) (by simp only [execOp,hq,Sem.run_pure]) (hK _ _ (Ayt h (hx x (by simp [Op.operands])) o.dst hd hop))
 | pick c x y=>
  rw [hq] at hop hx;simp only at hop;cases ho:opd E F c with
  | none=>simp [ho] at hop
  | some dc=>
   simp only [ho] at hop
   split at hop
   ·rename_i t hdc;cases hdc;have hb:=Abb (h.opd (hx c (by simp [Op.operands])) ho);cases hy:opd E F (if t then x else y) with
    | none=>simp [hy] at hop
    | some d=>
     simp only [hy,Option.map_some,zJ] at hop;subst hop;have hv:=h.opd (x:=if t then x else y) (by cases t<;>exact hx _ (by simp [Op.operands])) hy;refine Aa8 (v:=a.eval (if t then x else y)) (w':=w) ?_ (hK _ _ (Aac h hv o.dst hd));simp only [execOp,hq,hb,Sem.run_bind,asBool,Sem.run_pure,Result.andThen_ok];cases t<;>rfl
   ·cases hop
 | alloc t=>
  rw [hq] at hop;simp only at hop
  split at hop
  ·rename_i e hz;simp only [zJ] at hop;subst hop;obtain ⟨v,w',h1,h2⟩:=Ayr (E:=E) h hz o.dst hd;exact Aa8 (by simp only [execOp,hq,Sem.run_bind,h1,Result.andThen_ok,Sem.run_pure]) (hK _ _ h2)
  simp only [Option.map_eq_some_iff] at hop;obtain ⟨z,hz,rfl⟩:=hop;obtain ⟨v,w',h1,h2⟩:=Baf (P:=E.P) h hz o.dst hd;exact Aa8 (by simp only [execOp,hq,Sem.run_bind,h1,Result.andThen_ok,Sem.run_pure]) (hK _ _ h2)
 | box t x=>
  rw [hq] at hop hx;simp only [Option.bind_eq_some_iff] at hop;obtain ⟨⟨d,F1⟩,ht,hop⟩:=hop
  split at hop
  ·simp only [zJ] at hop;subst hop;obtain ⟨v,w',h1,h2⟩:=Bdz (P:=E.P) (E:=E) (v:=.nilIface) (d:=d) (t:=t) h (hx x (by simp [Op.operands])) ht o.dst hd;exact Aa8 (by simp only [execOp,hq,Sem.run_bind,h1,Result.andThen_ok,Sem.run_pure]) (hK _ _ h2)
  ·cases hop
 | build t ps=>
  rw [hq] at hop hx;simp only at hop;cases hz:zeroT E.P t with
  | none=>simp [hz] at hop
  | some z=>
   cases hp:takeParts E F ps.toList with
   | none=>simp [hz,hp] at hop
   | some q=>
    obtain ⟨ds,F1⟩:=q;simp only [hz,hp] at hop;have hfp:∀ p∈ps.toList,Fits n p.2:=fun p hp=>hx p.2 (by simp only [Op.operands,List.toList_toArray];exact List.mem_map.2 ⟨p,hp,rfl⟩)
    split at hop
    ·rename_i l e hu
     split at hop
     ·rename_i hi;simp only [Option.map_eq_some_iff] at hop;obtain ⟨cs,hf,rfl⟩:=hop;obtain ⟨i,hi⟩:=Option.isSome_iff_exists.1 hi;obtain ⟨v,h1,h2⟩:=Au7 h hfp hz hp (place:=fun i=>some (i*sizeT E.P e,sizeT E.P e)) (fun cells zc hzc=>by
       cases hit:E.P.info? t with
       | none=>simp [hit] at hzc
       | some it=>
        simp only [hit,Option.bind_some] at hzc;unfold Program.built
        simp [hu,hit,hzc,hi,sizeT]) hf o.dst hd
      exact Aa8 (by simp only [execOp,hq,Sem.run_bind,h1,Result.andThen_ok,Sem.run_pure]) (hK _ _ h2)
     ·cases hop
    ·rename_i fs hu
     split at hop
     ·rename_i hi;simp only [Option.map_eq_some_iff] at hop;obtain ⟨cs,hf,rfl⟩:=hop;obtain ⟨v,h1,h2⟩:=Au7 h hfp hz hp (place:=fun i=>(fs[i]?).map fun fd=>(fd.offset,sizeT E.P fd.type)) (fun cells zc hzc=>by
       cases hit:E.P.info? t with
       | none=>simp [hit] at hzc
       | some it=>
        simp only [hit,Option.bind_some] at hzc;unfold Program.built;simp only [hu,hit,hzc,Aog hi];congr 1;funext k
        simp) hf o.dst hd
      exact Aa8 (by simp only [execOp,hq,Sem.run_bind,h1,Result.andThen_ok,Sem.run_pure]) (hK _ _ h2)
     ·cases hop
    ·cases hop
 | buildSlice t m ps=>
  rw [hq] at hop hx;simp only at hop;cases hs:sliceT E.P t with
  | none=>simp [hs] at hop
  | some e=>
   simp only [hs] at hop;cases hz:zeroT E.P e with
   | none=>simp [hz] at hop
   | some z=>
    cases hp:takeParts E F ps.toList with
    | none=>simp [hz,hp] at hop
    | some q=>
     obtain ⟨ds,F1⟩:=q;simp only [hz,hp] at hop;have hfp:∀ p∈ps.toList,Fits n p.2:=fun p hp=>hx p.2 (by simp only [Op.operands,List.toList_toArray];exact List.mem_map.2 ⟨p,hp,rfl⟩)
     split at hop
     ·rename_i hc;simp only [Option.map_eq_some_iff] at hop;obtain ⟨es,hf,rfl⟩:=hop;obtain ⟨v,w',h1,h2⟩:=Atc h hs hfp hz hp hc.1 hc.2.1 hc.2.2 hf o.dst hd;exact Aa8 (by simp only [execOp,hq,Sem.run_bind,h1,Result.andThen_ok,Sem.run_pure]) (hK _ _ h2)
     ·cases hop
 | load t x=>
  rw [hq] at hop hx;simp only at hop;cases ho:opd E F x with
  | none=>simp [ho] at hop
  | some d=>
   simp only [ho,Option.map_eq_some_iff] at hop;obtain ⟨d',hl,rfl⟩:=hop;obtain ⟨u,h1,h2⟩:=Bb3 h (h.opd (hx x (by simp [Op.operands])) ho) hl;exact Aa8 (by simp only [execOp,hq,Sem.run_bind,h1,Result.andThen_ok,Sem.run_pure]) (hK _ _ (Aac h h2 o.dst hd))
 | store t x y=>
  rw [hq] at hop hx;simp only at hop
  split at hop
  case isFalse=>cases hop
  rename_i hi;cases ho:takeOp E F y with
  | none=>simp [ho] at hop
  | some q=>
   obtain ⟨d,F1⟩:=q;simp only [ho] at hop;cases hp:opd E F1 x with
   | none=>simp [hp] at hop
   | some p=>
    simp only [hp,Option.map_eq_some_iff] at hop;obtain ⟨F2,hst,rfl⟩:=hop;obtain ⟨tt,G1,rfl,b2,b3,b4,b5,b6⟩:=Af5 h (hx y (by simp [Op.operands])) ho;have hv:=b5.opd (hx x (by simp [Op.operands])) hp;obtain ⟨w',G',c1,c2,c3⟩:=Azz b5 b3 b4 hv hst (Option.isSome_iff_exists.1 hi);rw [b2] at c1;refine Alu (by simp only [execOp,hq,Sem.run_bind,c1,Result.andThen_ok,Sem.run_pure]) (hK _ _ (Ad1 c2 o.dst hd ?_));exact (Evo.refl' M w fun g hg=>by have:=b6 g hg;simpa [keys] using this).trans c3
 | nilCheck x=>
  rw [hq] at hop hx;simp only at hop;cases ho:opd E F x with
  | none=>simp [ho] at hop
  | some d=>
   have hv:=h.opd (hx x (by simp [Op.operands])) ho;have key:∀ g b,a.eval x=.pointer (some ⟨g,b,none⟩)->F'=fin F o.dst d->o.wp E.P a w K Q:=fun g b e1 e2=>by
    subst e2;refine Aa8 (v:=a.eval x) (w':=w) ?_ (hK _ _ (Aac h hv o.dst hd));simp only [execOp,hq,e1,Sem.run_pure]
   simp only [ho] at hop
   split at hop
   ·rename_i s ps hdd;cases hdd;obtain ⟨z,hz,hzn,hzv⟩:=hv;rw [h.getAt,hz] at hop;simp only [Option.map_some] at hop
    split at hop
    ·rename_i cs hg;simp only [zJ] at hg hop;obtain ⟨g,e,ts,rfl,_⟩:=Amf (h.node_tidy hz) hg;exact key g 0 (by rw [hzv];rfl) hop.symm
    ·rename_i cs hg;simp only [zJ] at hg hop;have hw:=h.node_wf hz hzn;rw [Ash hg] at hw;have hr:=Ad0 hw (by simp);simp only [RI] at hr;obtain ⟨g,b,vs,e1,_⟩:=hr;exact key g b (by rw [hzv];exact e1) hop.symm
    ·cases hop
   ·rename_i s ps i c hdd;cases hdd;simp only [zJ] at hop;obtain ⟨z,hz,hzn,hP⟩:=hv;rcases hP with ⟨g,cap,e,sp,es,k,_,_,_,e4⟩ | ⟨g,e,cs,_,_,e3⟩
    ·exact key _ _ e4 hop.symm
    ·exact key _ _ e3 hop.symm
   ·rename_i cs hdd;cases hdd;simp only [zJ] at hop;have hr:RI M (.ref cs) (a.eval x):=hv;simp only [RI] at hr;obtain ⟨g,b,vs,e1,_⟩:=hr;exact key g b e1 hop.symm
   ·cases hop
 | binOp op t x y yt=>
  rw [hq] at hop hx;simp only at hop;cases ho:opd E F x with
  | none=>simp [ho] at hop
  | some d1=>
   cases ho2:opd E F y with
   | none=>simp [ho,ho2] at hop
   | some d2=>
    simp only [ho,ho2,Option.map_eq_some_iff] at hop;obtain ⟨d,hb,rfl⟩:=hop;obtain ⟨z,h1,h2⟩:=Bbw (h.opd (hx x (by simp [Op.operands])) ho) (h.opd (hx y (by simp [Op.operands])) ho2) hb x y (w:=w);refine Aa8 (v:=z) (w':=w) ?_ (hK _ _ (Aac h h2 o.dst hd));simp only [execOp,hq];rw [Sem.run_bind,h1];simp only [Result.andThen_ok,Sem.run_pure]
 | unOp op t x=>
  rw [hq] at hop hx;simp only at hop;cases ho:opd E F x with
  | none=>simp [ho] at hop
  | some d=>
   cases d with
   | lit v=>
    simp only [ho,Option.map_eq_some_iff] at hop;obtain ⟨u,hu,rfl⟩:=hop;have hv:=Abb (h.opd (hx x (by simp [Op.operands])) ho);obtain ⟨h1,h2⟩:=Bgm (P:=E.P) hu w;exact Aa8 (v:=u) (w':=w) (by simp only [execOp,hq,hv,Sem.run_bind,h1,Result.andThen_ok,Sem.run_pure]) (hK _ _ (Aac h (Ac1 h2) o.dst hd))
   | _=>simp [ho] at hop
 | convert s t x=>
  rw [hq] at hop hx;simp only at hop;cases ho:opd E F x with
  | none=>simp [ho] at hop
  | some d=>
   simp only [ho,Option.map_eq_some_iff] at hop;obtain ⟨d',hl,rfl⟩:=hop;obtain ⟨u,w',h1,h2⟩:=Axc h (h.opd (hx x (by simp [Op.operands])) ho) hl o.dst hd;exact Aa8 (by simp only [execOp,hq,Sem.run_bind,h1,Result.andThen_ok,Sem.run_pure]) (hK _ _ h2)
 | makeFunc fn first caps=>
  rw [hq] at hop hx;cases fn with
  | func g=>
   simp only at hop
   split at hop
   ·rename_i he;simp only [Option.map_eq_some_iff] at hop;obtain ⟨cs,hc,rfl⟩:=hop;have hcs:=Au9 h (fun x hx'=>hx x (by simp [Op.operands];right;simpa using hx')) hc;have he':first=#[]:=by simpa using he
    subst he';have hv:VOK M G (.fn g cs) (.func (.func g) #[] (caps.map a.eval)):=⟨caps.toList.map a.eval,by congr 1;exact Array.ext' (by simp),hcs⟩
    exact Aa8 (v:=.func (.func g) #[] (caps.map a.eval)) (w':=w) (by simp [execOp,hq,Instr.makeFunc]) (hK _ _ (Aac h hv o.dst hd))
   ·cases hop
  | _=>cases hop
 | makeMap t r=>
  rw [hq] at hop;cases r with
  | some r=>cases hop
  | none=>
   simp only [zJ] at hop;subst hop;obtain ⟨v,w',h1,h2⟩:=Axt (P:=E.P) h t o.dst hd;exact Aa8 (by simp only [execOp,hq,Option.map_none,Sem.run_bind,h1,Result.andThen_ok,Sem.run_pure]) (hK _ _ h2)
 | makeSlice t l c=>
  rw [hq] at hop hx;simp only at hop;cases hol:opd E F l with
  | none=>simp [hol] at hop
  | some dl=>
   cases hoc:opd E F c with
   | none=>simp [hol,hoc] at hop
   | some dc=>
    cases hs:sliceT E.P t with
    | none=>simp [hol,hoc,hs] at hop
    | some e=>
     simp only [hol,hoc,hs] at hop
     split at hop
     ·rename_i k m z hk hm hz
      split at hop
      ·rename_i hc;simp only [zJ] at hop;subst hop;obtain ⟨v,w',h1,h2⟩:=Auv (P:=E.P) h hs hz (h.opd (hx l (by simp [Op.operands])) hol) (h.opd (hx c (by simp [Op.operands])) hoc) hk hm hc.1 hc.2.1 hc.2.2.1 hc.2.2.2.1 hc.2.2.2.2 o.dst hd;exact Aa8 (by simp only [execOp,hq,Sem.run_bind,h1,Result.andThen_ok,Sem.run_pure]) (hK _ _ h2)
      ·cases hop
     ·cases hop
 | slice t x lo hi mx=>
  rw [hq] at hop hx;cases mx with
  | some m=>cases hop
  | none=>
   simp only at hop;cases ho:opd E F x with
   | none=>simp [ho] at hop
   | some d=>
    cases hl:optNat E F lo with
    | none=>simp [ho,hl] at hop
    | some l=>
     cases hh:optNat E F hi with
     | none=>simp [ho,hl,hh] at hop
     | some hi'=>
      simp only [ho,hl,hh,Option.map_eq_some_iff] at hop;obtain ⟨d',hs,rfl⟩:=hop;have b1:=At0 h (fun y hy=>hx y (by subst hy;simp [Op.operands])) hl;have b2:=At0 h (fun y hy=>hx y (by subst hy;simp [Op.operands])) hh;obtain ⟨u,h1,h2⟩:=Azy h (h.opd (hx x (by simp [Op.operands])) ho) b1 b2 hs;exact Aa8 (v:=u) (w':=w) (by simp only [execOp,hq,Option.map_none,Sem.run_bind,h1,Result.andThen_ok,Sem.run_pure]) (hK _ _ (Aac h h2 o.dst hd))
 | fieldAddr t x j=>
  rw [hq] at hop hx;simp only at hop;cases hf:fieldT E.P t j with
  | none=>simp [hf] at hop
  | some fd=>
   cases ho:opd E F x with
   | none=>simp [hf,ho] at hop
   | some d=>
    cases hp:ptrOf F d with
    | none=>simp [hf,ho,hp] at hop
    | some p=>
     simp only [hf,ho,Option.bind_some,hp] at hop;have hv:=h.opd (hx x (by simp [Op.operands])) ho;cases p with
     | imm cs=>
      simp only at hop
      split at hop
      ·rename_i hs;simp only [zJ] at hop;subst hop;obtain ⟨u,h1,h2⟩:=Apz h hf hs hv hp;exact Aa8 (v:=u) (w':=w) (by simp only [execOp,hq,Sem.run_bind,h1,Result.andThen_ok,Sem.run_pure]) (hK _ _ (Aac h h2 o.dst hd))
      ·cases hop
     | loc s ps i c=>
      simp only at hop
      split at hop
      ·rename_i hs;simp only [zJ] at hop;subst hop;obtain ⟨u,h1,h2⟩:=Apz h hf hs hv hp;exact Aa8 (v:=u) (w':=w) (by simp only [execOp,hq,Sem.run_bind,h1,Result.andThen_ok,Sem.run_pure]) (hK _ _ (Aac h h2 o.dst hd))
      ·cases hop
 | field t x j=>
  rw [hq] at hop hx;simp only at hop;cases hf:fieldT E.P t j with
  | none=>simp [hf] at hop
  | some fd=>
   cases ho:opd E F x with
   | none=>simp [hf,ho] at hop
   | some d=>
    cases d with
    | agg cs=>
     simp only [hf,ho,Option.map_eq_some_iff] at hop;obtain ⟨d',hp,rfl⟩:=hop;obtain ⟨u,h1,h2⟩:=Bas h hf (h.opd (hx x (by simp [Op.operands])) ho) hp;exact Aa8 (v:=u) (w':=w) (by simp only [execOp,hq,Sem.run_bind,h1,Result.andThen_ok,Sem.run_pure]) (hK _ _ (Aac h h2 o.dst hd))
    | _=>simp [hf,ho] at hop
 | indexAddr t x ix=>
  rw [hq] at hop hx;simp only at hop;cases ho:opd E F x with
  | none=>simp [ho] at hop
  | some d=>
   cases hi:opd E F ix with
   | none=>simp [ho,hi] at hop
   | some di=>
    simp only [ho,hi,Option.map_eq_some_iff] at hop;obtain ⟨d',hp,rfl⟩:=hop;obtain ⟨u,h1,h2⟩:=Axm h (h.opd (hx x (by simp [Op.operands])) ho) (h.opd (hx ix (by simp [Op.operands])) hi) hp;exact Aa8 (v:=u) (w':=w) (by simp only [execOp,hq,Sem.run_bind,h1,Result.andThen_ok,Sem.run_pure]) (hK _ _ (Aac h h2 o.dst hd))
 | index t x ix=>
  rw [hq] at hop hx;simp only at hop;cases ho:opd E F x with
  | none=>simp [ho] at hop
  | some d=>
   cases hi:opd E F ix with
   | none=>simp [ho,hi] at hop
   | some di=>
    cases hn:asNat di with
    | none=>simp [ho,hi,hn] at hop
    | some i=>
     simp only [ho,hi,Option.bind_some,hn] at hop;have hv:=h.opd (hx x (by simp [Op.operands])) ho;have hvi:=h.opd (hx ix (by simp [Op.operands])) hi
     split at hop
     ·rename_i s j hs hj;cases hj;cases hs
      split at hop
      ·rename_i hu;simp only [Option.map_eq_some_iff] at hop;obtain ⟨b,hb,rfl⟩:=hop;obtain ⟨u,h1,h2⟩:=Aq9 (E:=E) (w:=w) hu hn hv hvi hb;exact Aa8 (v:=u) (w':=w) (by simp only [execOp,hq,Sem.run_bind,h1,Result.andThen_ok,Sem.run_pure]) (hK _ _ (Aac h h2 o.dst hd))
      ·cases hop
     ·rename_i cs j hs hj;cases hj;cases hs
      split at hop
      ·rename_i l e ha
       split at hop
       ·rename_i hil;simp only [Option.map_eq_some_iff] at hop;obtain ⟨d',hb,rfl⟩:=hop;obtain ⟨u,h1,h2⟩:=Arj h ha hn hil hv hvi hb;exact Aa8 (v:=u) (w':=w) (by simp only [execOp,hq,Sem.run_bind,h1,Result.andThen_ok,Sem.run_pure]) (hK _ _ (Aac h h2 o.dst hd))
       ·cases hop
      ·cases hop
     ·cases hop
 | lookup t x k ok=>
  rw [hq] at hop hx;simp only at hop;cases ho:opd E F x with
  | none=>simp [ho] at hop
  | some d=>
   cases hk:opd E F k with
   | none=>simp [ho,hk] at hop
   | some dk=>
    simp only [ho,hk,Option.map_eq_some_iff] at hop;obtain ⟨d',hp,rfl⟩:=hop;obtain ⟨u,h1,h2⟩:=Azj h (h.opd (hx x (by simp [Op.operands])) ho) (h.opd (hx k (by simp [Op.operands])) hk) hp o.dst hd;exact Aa8 (v:=u) (w':=w) (by simp only [execOp,hq,Sem.run_bind,h1,Result.andThen_ok,Sem.run_pure]) (hK _ _ h2)
 | mapUpdate t m k v=>
  rw [hq] at hop hx;simp only [Option.map_eq_some_iff] at hop;obtain ⟨F1,hu,rfl⟩:=hop;obtain ⟨w',G',c1,c2,c3⟩:=Amm h (hx m (by simp [Op.operands])) (hx k (by simp [Op.operands])) (hx v (by simp [Op.operands])) hu;exact Alu (by simp only [execOp,hq,Sem.run_bind,c1,Result.andThen_ok,Sem.run_pure]) (hK _ _ (Ad1 c2 o.dst hd c3))
 | insert t m k v=>
  rw [hq] at hop hx;simp only [Option.map_eq_some_iff] at hop;obtain ⟨F1,hu,rfl⟩:=hop;obtain ⟨w',G',c1,c2,c3⟩:=Amm h (hx m (by simp [Op.operands])) (hx k (by simp [Op.operands])) (hx v (by simp [Op.operands])) hu;exact Alu (by simp only [execOp,hq,Sem.run_bind,c1,Result.andThen_ok,Sem.run_pure]) (hK _ _ (Ad1 c2 o.dst hd c3))
 | extract x i=>
  rw [hq] at hop hx;cases x with
  | tmp t=>
   simp only at hop
   split at hop
   ·rename_i ds hg;simp only [Option.map_eq_some_iff] at hop;obtain ⟨d,hdi,rfl⟩:=hop;obtain ⟨u,h1,h2⟩:=Axg h (hx (.tmp t) (by simp [Op.operands]) t rfl) hg hdi;exact Aa8 (v:=u) (w':=w) (by simp only [execOp,hq,Sem.run_bind,h1 E.P,Result.andThen_ok,Sem.run_pure]) (hK _ _ (Aac h h2 o.dst hd))
   ·cases hop
  | _=>cases hop
 | call c=>
  rw [hq] at hop hx;simp only at hop;have hargs:∀ x∈c.args.toList,Fits n x:=fun x hx'=>hx x (by simp [Op.operands,Call.operands];right;simpa using hx');cases hc:c.callee with
  | invoke=>rw [hc] at hop;cases hop
  | value x=>
   rw [hc] at hop;simp only at hop;cases ho:opd E F x with
   | none=>simp [ho] at hop
   | some d=>
    cases d with
    | fn g caps=>
     simp only [ho,Option.bind_eq_some_iff] at hop;obtain ⟨⟨r,F4⟩,hcl,hop⟩:=hop;simp only [Option.map_eq_some_iff] at hop;obtain ⟨r',hcold,rfl⟩:=hop;have hxf:Fits n x:=hx x (by simp [Op.operands,Call.operands,hc]);have hv:=h.opd hxf ho;obtain ⟨cv,hcv,hcap⟩:=hv;rw [hcap.length] at hcl;have:=Ban hcall hgd h hxf (fun y hy=>by
      simp only [argsOf,List.mem_append,List.mem_map,Arg.opn.injEq,exists_eq_right,reduceCtorEq,and_false,exists_false,or_false] at hy
      exact hargs y hy) hcl hcv
     rw [Ba2] at this;unfold Oper.wp;have hexec:(execOp a.eval o).run E.P w=(callFunc g (c.args.toList.map a.eval++cv).toArray).run E.P w:=by
      simp only [execOp,hq,resolve,hc,hcv,Deferred.ofValue,Sem.run_bind,Sem.run_pure,Result.andThen_ok,invoke];congr 2;apply Array.ext';simp
     rw [hexec];unfold Does at this
     split at this
     ·rename_i g' vs w' hrun;rw [hrun];show Calls E.P g' vs w' _;refine Calls.mono this ?_;rintro e w'' ⟨M',G',t,rfl,t1,t2,t3,t4,t5⟩;rw [← t1] at hcold;exact hK _ _ (Ao8 t4 t2 t3 o.dst hd hcold t5)
     ·rename_i v w' hrun;rw [hrun];obtain ⟨M',G',t,hv,t1,t2,t3,t4,t5⟩:=this;cases hv;rw [← t1] at hcold;exact hK _ _ (Ao8 t4 t2 t3 o.dst hd hcold t5)
     ·exact this.elim
    | _=>simp [ho] at hop
  | builtin b=>
   rw [hc] at hop;simp only at hop;have hexec:∀ u w',(builtin b c.argTypes o.type (c.args.map fun | .const _=>true | _=>false) (c.args.map a.eval)).run E.P w=.ok (.value u) w'->(execOp a.eval o).run E.P w=.ok (.value u) w':=fun u w' hb=>by
    simp only [execOp,hq,resolve,hc,Sem.run_bind,Sem.run_pure,Result.andThen_ok,invoke];exact hb
   unfold builtinC at hop;have arr:∀ {α:Type} {a:Array α} {l:List α},a.toList=l->a=l.toArray:=fun hl=>by rw [← hl]
   split at hop
   ·rename_i x t ts hb2 hb3;cases ho:opd E F x with
    | none=>simp [ho] at hop
    | some d=>
     simp only [ho,Option.map_eq_some_iff] at hop;obtain ⟨d',hl,rfl⟩:=hop;obtain ⟨u,h1,h2⟩:=Bdf h (ty:=o.type) (ts:=ts) (h.opd (hargs x (by rw [hb2];simp)) ho) hl;refine Aa8 (v:=u) (w':=w) (hexec u w ?_) (hK _ _ (Aac h h2 o.dst hd));rw [arr hb2,arr hb3];simp only [builtin,List.map_toArray,List.map_cons,List.map_nil,Sem.run_bind,h1,Result.andThen_ok,Sem.run_pure]
   ·rename_i x y t u hb2 hb3
    split at hop
    ·rename_i hu;obtain ⟨v,w',h1,h2⟩:=Ays h (t:=t) (u:=u) (ty:=o.type) (hargs x (by rw [hb2];simp)) (hargs y (by rw [hb2];simp)) hu o.dst hd hop;refine Aa8 (v:=v) (w':=w') (hexec v w' ?_) (hK _ _ h2);rw [arr hb2,arr hb3];simp only [builtin,List.map_toArray,List.map_cons,List.map_nil,Sem.run_bind,h1,Result.andThen_ok,Sem.run_pure]
    ·cases hop
   ·rename_i x y hb2;cases ho:opd E F x with
    | none=>simp [ho] at hop
    | some d1=>
     cases ho2:opd E F y with
     | none=>simp [ho,ho2] at hop
     | some d2=>
      simp only [ho,ho2,Option.map_eq_some_iff] at hop;obtain ⟨d,hi,rfl⟩:=hop;obtain ⟨k,p,q,e1,e2,rfl⟩:=Asq (h.opd (hargs x (by rw [hb2];simp)) ho) (h.opd (hargs y (by rw [hb2];simp)) ho2) hi;refine Aa8 (v:=.int k (if q > p then q else p)) (w':=w) (hexec _ w ?_) (hK _ _ (Aac h (Ac1 rfl) o.dst hd));rw [arr hb2];simp only [builtin,List.map_toArray,List.map_cons,List.map_nil,e1,e2,Builtin.max_,List.foldlM_cons,List.foldlM_nil,Builtin.max2,Sem.run_bind,Result.andThen_ok,Sem.run_pure]
   ·rename_i x y hb2;cases ho:opd E F x with
    | none=>simp [ho] at hop
    | some d1=>
     cases ho2:opd E F y with
     | none=>simp [ho,ho2] at hop
     | some d2=>
      simp only [ho,ho2,Option.map_eq_some_iff] at hop;obtain ⟨d,hi,rfl⟩:=hop;obtain ⟨k,p,q,e1,e2,rfl⟩:=Asq (h.opd (hargs x (by rw [hb2];simp)) ho) (h.opd (hargs y (by rw [hb2];simp)) ho2) hi;refine Aa8 (v:=.int k (if q<p then q else p)) (w':=w) (hexec _ w ?_) (hK _ _ (Aac h (Ac1 rfl) o.dst hd));rw [arr hb2];simp only [builtin,List.map_toArray,List.map_cons,List.map_nil,e1,e2,Builtin.min_,List.foldlM_cons,List.foldlM_nil,Builtin.min2,Sem.run_bind,Result.andThen_ok,Sem.run_pure]
   ·rename_i x t ts hb2 hb3
    split at hop
    case h_2=>cases hop
    rename_i s ps off len e ho hs
    split at hop
    case h_2=>cases hop
    rename_i es z hg hz
    split at hop
    case isFalse=>cases hop
    rename_i hcnd;simp only [Option.map_eq_some_iff] at hop;obtain ⟨F1,hsa,rfl⟩:=hop;obtain ⟨w',h1,h2⟩:=Bao h hs (h.opd (hargs x (by rw [hb2];simp)) ho) hg hz hcnd.1 hcnd.2.1 hcnd.2.2.2 hcnd.2.2.1 hsa o.dst hd (ty:=o.type) (ts:=ts);refine Aa8 (v:=.tuple #[]) (w':=w') (hexec _ w' ?_) (hK _ _ h2);rw [arr hb2,arr hb3];simp only [builtin,List.map_toArray,List.map_cons,List.map_nil,Sem.run_bind,h1,Result.andThen_ok,Sem.run_pure]
   ·cases hop
 | _=>rw [hq] at hop;cases hop
end
end Go.Own
