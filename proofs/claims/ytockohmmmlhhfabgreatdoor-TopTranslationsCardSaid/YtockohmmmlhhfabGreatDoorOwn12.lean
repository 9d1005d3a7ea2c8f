/- An interpreter of function bodies, sound. No conditions. -/
import Derived.Laws.Rows
import Derived.Test.YtockohmmmlhhfabGreatDoorOwn11
set_option linter.all false
namespace Go.Own
open D
theorem BlkOK.setRow {M:Mem} {w:World} {B:Blks} {g e:Nat} {fr:Nat×Nat} {L L':Array Value} (h:BlkOK M w ((g,.cells L e fr)::B)):BlkOK M (w.setRow g L') ((g,.cells L' e fr)::B) where
 nodup:=by simpa using h.nodup
 heap x hx:=by
  have hg:=h.heap (g,.cells L e fr) List.mem_cons_self;rcases List.mem_cons.1 hx with rfl | hx
  ·exact setRow_heap w g L L' e fr hg
  ·have hne:x.1≠g:=by
    intro he;have:=h.nodup;simp only [List.map_cons,List.nodup_cons,List.mem_map,not_exists,not_and] at this;exact this.1 x hx he
   rw [setRow_other w g x.1 L' hne];exact h.heap x (List.mem_cons_of_mem _ hx)
 apart x hx:=by
  rcases List.mem_cons.1 hx with rfl | hx
  ·exact h.apart (g,.cells L e fr) List.mem_cons_self
  ·exact h.apart x (List.mem_cons_of_mem _ hx)
theorem Aar.setRow {M:Mem} {w:World} (h:Aar M w) {g:Nat} (hg:M g=none) (L:Array Value):Aar M (w.setRow g L):=fun k o hk=>by
 have:k≠g:=by rintro rfl;rw [hg] at hk;cases hk
 rw [setRow_other w g k L this];exact h k o hk
theorem Evo.setRow {M M1:Mem} {B B1:List Nat} {w w1:World} (e:Evo M B w M1 B1 w1) {g:Nat} (hg:g∈B1) (L:Array Value):Evo M B w M1 B1 (w1.setRow g L) where
 os:=e.os
 tape:=e.tape
 output:=e.output
 size:=by rw [size_setRow];exact e.size
 out k hk hB:=by
  have:k≠g:=by
   rintro rfl;rcases e.own k hg with h | h
   ·exact hB h
   ·omega
  rw [setRow_other w1 g k L this];exact e.out k hk hB
 memle:=e.memle
 memnew:=e.memnew
 own:=e.own
theorem T.setElem_val {t t':T} {i:Nat} {cs:List T} (hn:t.node=true) (h:t.setElem i cs=some t'):t'.val=t.val:=by
 cases t with
 | leaf d v=>simp [T.setElem] at h
 | own g cap e sp es=>simp only [T.setElem,zJ] at h;subst h;simp [T.val]
 | nil=>simp only [T.setElem,zJ] at h;subst h;rfl
 | agg=>simp [T.node] at hn
 | box g e cs'=>cases i<;>simp [T.setElem] at h;subst h;simp [T.val]
 | map=>simp [T.setElem] at h
 | bld=>simp [T.setElem] at h
 | tup=>simp [T.node] at hn
theorem Ah1 {k:Nat}:∀ {es:List (List T)} {i:Nat} {e e':List T},(∀ x∈es,x.length=k)->es[i]? = some e->e'.length=k->T.valsE (es.set i e')=(T.valsE es).take (i*k)++T.vals e'++(T.valsE es).drop (i*k+k)
 | [],i,e,e',_,h,_=>by simp at h
 | x::es,0,e,e',hk,h,he=>by
  have hx:(T.vals x).length=k:=by simp [hk x (by simp)]
  simp only [List.set_cons_zero,T.valsE,Nat.zero_mul,List.take_zero,List.nil_append,Nat.zero_add];rw [← hx,List.drop_left]
 | x::es,i+1,e,e',hk,h,he=>by
  have hx:(T.vals x).length=k:=by simp [hk x (by simp)]
  simp only [List.getElem?_cons_succ] at h;simp only [List.set_cons_succ,T.valsE];rw [Ah1 (fun y hy=>hk y (by simp [hy])) h he];have h1:(i+1)*k=(T.vals x).length+i*k:=by rw [hx,Nat.succ_mul];omega
  have h2:(i+1)*k+k=(T.vals x).length+(i*k+k):=by rw [h1];omega
  rw [h2,h1,List.take_length_add_append,List.drop_length_add_append];simp only [List.append_assoc]
theorem Akb (ec ts:List T) (o:Nat):(T.blocksC (ec.take o++ts++ec.drop (o+ts.length))++T.blocksC ((ec.drop o).take ts.length)).Perm (T.blocksC ec++T.blocksC ts):=by
 have hsplit:T.blocksC ec=T.blocksC (ec.take o)++(T.blocksC ((ec.drop o).take ts.length)++T.blocksC (ec.drop (o+ts.length))):=by
  rw [← T.blocksC_append,← List.drop_drop,List.take_append_drop,← T.blocksC_append,List.take_append_drop]
 rw [hsplit];simp only [T.blocksC_append,List.append_assoc];refine List.Perm.append_left _ ?_;generalize T.blocksC ts=A;generalize T.blocksC (ec.drop (o+ts.length))=B;generalize T.blocksC ((ec.drop o).take ts.length)=C;refine List.perm_append_comm.trans ?_;refine (List.Perm.append_right A List.perm_append_comm).trans ?_;rw [List.append_assoc]
theorem Aw2 {x:T} {i o:Nat} {v:Value} (hp:Ag2 x i o v) {ec ts:List T} (he:x.elem i=some ec) (hl:o+ts.length<=ec.length) :
  ∃ g b L e bx x' bx',v=.pointer (some ⟨g,b,none⟩)/\x.blocks=(g,.cells L e (0,0))::bx/\x.setElem i (ec.take o++ts++ec.drop (o+ts.length))=some x' /\
   b+ts.length<=L.size/\x'.blocks=(g,.cells (L.toList.take b++T.vals ts++L.toList.drop (b+ts.length)).toArray e (0,0))::bx' /\
   (bx'++T.blocksC ((ec.drop o).take ts.length)).Perm (bx++T.blocksC ts):=by
 have hcs:(ec.take o++ts++ec.drop (o+ts.length)).length=ec.length:=by simp;omega
 have hvs:T.vals (ec.take o++ts++ec.drop (o+ts.length))=(T.vals ec).take o++T.vals ts++(T.vals ec).drop (o+ts.length):=by
  simp only [T.vals_append];simp [T.vals_eq,List.map_take,List.map_drop]
 rcases hp with ⟨g,cap,e,sp,es,k,rfl,hi,hk,rfl⟩ | ⟨g,e,cs,rfl,rfl,rfl⟩
 ·simp only [T.elem] at he;have hlk:ec.length=k:=hk ec (List.mem_of_getElem? he);have hvl:=Aat hk;have hb:i*k+k<=es.length*k:=by rw [← Nat.succ_mul];exact Nat.mul_le_mul_right _ hi
  have hset:=Ah1 (e':=ec.take o++ts++ec.drop (o+ts.length)) hk he (by rw [hcs,hlk]);obtain ⟨r,hr1,hr2⟩:=T.blocksE_set he;refine ⟨g,i*k+o,(T.valsE es++sp).toArray,e,T.blocksE es,_,T.blocksE (es.set i (ec.take o++ts++ec.drop (o+ts.length))),rfl,by simp only [T.blocks],rfl,?_,?_,?_⟩
  ·simp only [List.size_toArray,List.length_append,hvl];omega
  ·simp only [T.blocks];congr 4;rw [hset,hvs];have hseg:((T.valsE es).drop (i*k)).take k=T.vals ec:=by
    apply List.ext_getElem?;intro j;by_cases hj:j<k
    ·rw [List.getElem?_take_of_lt hj,List.getElem?_drop];exact Ana hk he j hj
    ·rw [List.getElem?_take,if_neg hj];symm;rw [List.getElem?_eq_none_iff];simp;omega
   have e1:(T.vals ec).take o=((T.valsE es).drop (i*k)).take o:=by rw [← hseg,List.take_take];congr 1;omega
   have e2:(T.vals ec).drop (o+ts.length)=((T.valsE es).drop (i*k+(o+ts.length))).take (k-(o+ts.length)):=by
    rw [← hseg,List.drop_take,List.drop_drop]
   have e3:(T.valsE es).take (i*k)++((T.valsE es).drop (i*k)).take o=(T.valsE es).take (i*k+o):=by
    rw [List.take_add]
   have e4:((T.valsE es).drop (i*k+(o+ts.length))).take (k-(o+ts.length))++(T.valsE es).drop (i*k+k)=(T.valsE es).drop (i*k+(o+ts.length)):=by
    have:i*k+k=(i*k+(o+ts.length))+(k-(o+ts.length)):=by omega
    rw [this,← List.drop_drop (i:=k-(o+ts.length)),List.take_append_drop]
   rw [e1,e2];have l1:(T.valsE es).length=es.length*k:=hvl;rw [List.take_append_of_le_length (by rw [l1];omega),List.drop_append_of_le_length (by rw [l1];omega)];rw [← e3];have e5:i*k+o+ts.length=i*k+(o+ts.length):=by omega
   rw [e5];simp only [List.append_assoc];rw [← List.append_assoc (List.take (k-(o+ts.length)) _),e4]
  ·refine (List.Perm.append_right _ (hr2 _).symm).trans ?_;refine List.Perm.trans ?_ (List.Perm.append_right _ hr1);have hsp:=Akb ec ts o;generalize T.blocksC (ec.take o++ts++ec.drop (o+ts.length))=A at hsp ⊢;generalize T.blocksC ((ec.drop o).take ts.length)=C at hsp ⊢;have p1:((A++r)++C).Perm ((A++C)++r):=by
    rw [List.append_assoc,List.append_assoc];exact List.Perm.append_left _ List.perm_append_comm
   have p2:((T.blocksC ec++T.blocksC ts)++r).Perm ((T.blocksC ec++r)++T.blocksC ts):=by
    rw [List.append_assoc,List.append_assoc];exact List.Perm.append_left _ List.perm_append_comm
   exact p1.trans ((hsp.append_right r).trans p2)
 ·simp only [T.elem,zJ] at he;subst he;refine ⟨g,o,(T.vals cs).toArray,e,T.blocksC cs,_,T.blocksC (cs.take o++ts++cs.drop (o+ts.length)),rfl,by simp only [T.blocks],rfl,by simpa using hl,?_,Akb cs ts o⟩;simp only [T.blocks,hvs]
section
variable {n:Nat} {R:Nat->Value} {M:Mem} {F F':Fr} {G:FT} {H:Blks} {a:Act} {w:World}
theorem Aru {ec:List T} {M:Mem} (hw:T.wfC M ec) (ht:T.tidyC ec) {o k c:Nat} (h:(((ec.map T.erase).drop o).take k).any node1=false) (h1:o<=c) (h2:c<o+k) {y z:T} (hc:ec[c]? = some y) {r:Path} (hr:y.getP r=some z) (hz:z.node=true):False:=by
 have hm:y.erase∈((ec.map T.erase).drop o).take k:=by
  rw [List.mem_iff_getElem?];refine ⟨c-o,?_⟩;rw [List.getElem?_take_of_lt (by omega),List.getElem?_drop,List.getElem?_map];have:o+(c-o)=c:=by omega
  rw [this,hc];rfl
 have hn:y.erase.node1=false:=by
  have:=List.any_eq_false.1 h _ hm;simpa using this
 have hyt:=(T.tidyC_iff ec).1 ht y (List.mem_of_getElem? hc);have hyw:=(T.wfC_iff M ec).1 hw y (List.mem_of_getElem? hc);cases y with
 | leaf d v=>
  obtain ⟨_,rfl⟩:=Adl hr;cases d<;>simp_all [T.node,T.erase,D.node1]
 | agg=>simp [T.wf] at hyw
 | tup=>simp [T.wf] at hyw
 | _=>simp [T.erase,D.node1] at hn
theorem Aoa {G:FT} {s:Nat} {ps:Path} {x x' t':T} {i o:Nat} {ec ts:List T} (hx:(getT G s).getP ps=some x) (hn:x.node=true) (he:x.elem i=some ec) (hl:o+ts.length<=ec.length) (hset:x.setElem i (ec.take o++ts++ec.drop (o+ts.length))=some x')
  (hs:(getT G s).setP ps x'=some t') (dead:Bool->Nat->Path->Bool) (hd:∀ b c r,o<=c->c<o+ts.length->dead b s (ps++(i,c)::r)=true∨(∀ y z,ec[c]? = some y->y.getP r=some z->z.node=true->False)):Adi G (Aa7 G s t') dead:=by
 have hcs:(ec.take o++ts++ec.drop (o+ts.length)).length=ec.length:=by simp;omega
 intro s' p y hy hyn
 suffices hh:(∃ b,dead b s' p=false)->∃ y',(getT (Aa7 G s t') s').getP p=some y'/\T.like y y' from
  ⟨fun h=>by
   obtain ⟨y',h1,h2⟩:=hh ⟨_,h⟩
   exact ⟨y',h1,T.like_node h2 hyn,T.like_val h2⟩,fun h=>hh ⟨_,h⟩⟩
 rintro ⟨b,hdead⟩;by_cases hss:s'=s
 ·subst hss;rw [Abr];by_cases hp:pre ps p=true
  ·obtain ⟨r,rfl⟩:=(Ag8 ps p).1 hp;rw [T.getP_setP_below ps hx hs r];rw [T.getP_below ps hx] at hy;cases r with
   | nil=>
    simp only [T.getP,zJ] at hy ⊢;subst hy;exact ⟨x',rfl,T.setElem_like he hcs hset hn⟩
   | cons q r=>
    obtain ⟨i',c⟩:=q;simp only [T.getP] at hy ⊢;rw [T.elem_setElem he hset i'];by_cases hi:i'=i
    ·subst hi;simp only [if_true,he] at hy ⊢;by_cases hc:o<=c/\c<o+ts.length
     ·rcases hd b c r hc.1 hc.2 with h1 | h1
      ·rw [h1] at hdead;cases hdead
      ·cases hec:ec[c]? with
       | none=>simp [hec] at hy
       | some c0=>simp only [hec] at hy;exact (h1 c0 y hec hy hyn).elim
     ·have:(ec.take o++ts++ec.drop (o+ts.length))[c]? = ec[c]?:=by
       by_cases h1:c<o
       ·rw [List.append_assoc,List.getElem?_append_left (by simp;omega),List.getElem?_take_of_lt h1]
       ·have h2:o+ts.length<=c:=by omega
        rw [List.getElem?_append_right (by simp;omega),List.getElem?_drop];congr 1;simp;omega
      rw [this];exact ⟨y,hy,T.like_refl hyn⟩
    ·simp only [hi,if_false];exact ⟨y,hy,T.like_refl hyn⟩
  ·exact T.getP_setP_other ps hx hs p y (by simpa using hp) hy hyn
 ·rw [Aaq G t' hss];exact ⟨y,hy,T.like_refl hyn⟩
theorem Azz {E:Env} {t:T} (h:Inv n R M F G (t.blocks++[]) a w) (htd:t.tidy) (hgv:Giv M t) {ty:Nat} {x:D} {v:Value} (hx:VOK M G x v) (hd:storeD E F ty x t.erase=some F') (hty:∃ i,E.P.info? ty=some i) :
  ∃ w' G',(Instr.storeAt ty v t.val).run E.P w=.ok () w'/\Inv n R M F' G' [] a w'/\Evo M (keys (Aa0 G++(t.blocks++[]))) w M (keys (Aa0 G')) w':=by
 obtain ⟨ti,hti⟩:=hty;simp only [storeD] at hd;cases hp:ptrOf F x with
 | none=>simp [hp] at hd
 | some p=>
  have hpo:=Alk h hx hp;cases p with
  | imm cs=>simp [hp] at hd
  | loc s ps i o=>
   obtain ⟨y,hy,hyn,hpl⟩:=hpo;have hyw:=h.node_wf hy hyn;have hyt:=h.node_tidy hy;simp only [hp,h.getAt,hy,Option.map_some] at hd;cases he:y.erase.elem i with
   | none=>simp [he] at hd
   | some ec0=>
    obtain ⟨ec,hec,hec0⟩:=Aly hyt hpl he;simp only [he] at hd
    split at hd
    case isFalse=>cases hd
    rename_i hc;obtain ⟨hc1,hc2⟩:=hc;obtain ⟨c1,c2,c3,c4,c5⟩:=Aci hgv htd;rw [← c1,← hec0] at hd;rw [← c1] at hc1;rw [← hec0] at hc2;simp only [List.length_map] at hc1 hc2;rw [← hc1] at hc2 hd;obtain ⟨g,b,L,e,bx,y',bx',rfl,hb1,hset,hbL,hb2,hb3⟩:=Aw2 hpl hec hc2;have hmap:(ec.map T.erase).take o++t.cells.map T.erase++(ec.map T.erase).drop (o+t.cells.length)=T.eraseC (ec.take o++t.cells++ec.drop (o+t.cells.length)):=by
     simp [T.eraseC_eq,List.map_take,List.map_drop]
    rw [hmap,T.setElem_erase y hyt,hset] at hd;simp only [Option.map_some] at hd;have hval':=T.setElem_val hyn hset;obtain ⟨r,p1,p2⟩:=Aeh hy;obtain ⟨t',q1,q2,q3⟩:=p2 y' hval';have hsa:=h.setAt s ps y';rw [q1] at hsa;simp only [Option.map_some] at hsa;simp only [hsa] at hd;have hperm0:((g,Obj.cells L e (0,0))::(bx++r++t.blocks)).Perm (Aa0 G++(t.blocks++[])):=by
     rw [List.append_nil];refine List.Perm.trans ?_ (p1.append_right t.blocks);rw [hb1];simp
    have hB0:=h.blk.perm hperm0.symm;have hgn:M g=none:=hB0.apart _ List.mem_cons_self;have hB1:BlkOK M (w.setRow g (L.toList.take b++T.vals t.cells++L.toList.drop (b+t.cells.length)).toArray) ((g,_)::(bx++r++t.blocks)):=hB0.setRow;have hperm1:((Aa0 (Aa7 G s t')++[])++T.blocksC ((ec.drop o).take t.cells.length)).Perm ((g,Obj.cells (L.toList.take b++T.vals t.cells++L.toList.drop (b+t.cells.length)).toArray e (0,0))::(bx++r++t.blocks)):=by
     rw [List.append_nil];refine (q3.symm.append_right _).trans ?_;rw [hb2];simp only [List.cons_append];refine List.Perm.cons _ ?_;rw [← c5];generalize T.blocksC ((ec.drop o).take t.cells.length)=C at hb3 ⊢;have u1:((bx'++r)++C).Perm ((bx'++C)++r):=by
      rw [List.append_assoc,List.append_assoc];exact List.Perm.append_left _ List.perm_append_comm
     have u2:((bx++T.blocksC t.cells)++r).Perm ((bx++r)++T.blocksC t.cells):=by
      rw [List.append_assoc,List.append_assoc];exact List.Perm.append_left _ List.perm_append_comm
     exact u1.trans ((hb3.append_right r).trans u2)
    have hblk:=hB1.sub_perm hperm1;have hmem:=h.mem.setRow hgn (L.toList.take b++T.vals t.cells++L.toList.drop (b+t.cells.length)).toArray;have hwf':T.wf M y':=by
     refine Ar5 hyw hec (by simp;omega) ?_ hset;have hw:=Aks hyw hec;rw [T.wfC_iff] at hw c4 ⊢;intro z hz;rcases List.mem_append.1 hz with hz | hz
     ·rcases List.mem_append.1 hz with hz | hz
      ·exact hw z (List.mem_of_mem_take hz)
      ·exact c4 z hz
     ·exact hw z (List.mem_of_mem_drop hz)
    have htd':y'.tidy:=by
     refine T.tidy_setElem hyt ?_ hset;have hw:=T.tidy_elem hyt hec;rw [T.tidyC_iff] at hw c3 ⊢;intro z hz;rcases List.mem_append.1 hz with hz | hz
     ·rcases List.mem_append.1 hz with hz | hz
      ·exact hw z (List.mem_of_mem_take hz)
      ·exact c3 z hz
     ·exact hw z (List.mem_of_mem_drop hz)
    have hrun:(Instr.storeAt ty (.pointer (some ⟨g,b,none⟩)) t.val).run E.P w=.ok () (w.setRow g (L.toList.take b++T.vals t.cells++L.toList.drop (b+t.cells.length)).toArray):=by
     have hvl:t.val.cells.size=t.cells.length:=by
      have:=congrArg List.length c2;simp at this;omega
     have hst:=run_storeCells_at E.P g b e (T.vals t.cells) 0 L w (hB0.heap _ List.mem_cons_self) (by simpa using hbL) (Aio c4);simp only [Nat.add_zero,T.vals_length] at hst;have hsz:t.val.cells.size=sizeT E.P ty:=by rw [hvl];exact hc1
     rw [c2] at hst;unfold Instr.storeAt storeVar;rw [Sem.run_bind];simp only [Instr.sureAddr,Sem.run_pure,Result.andThen_ok,Sem.run_bind,Acb hti w,hsz,ne_eq,not_true_eq_false,if_false,hst,c2]
    have hk0:keys (Aa0 G++(t.blocks++[]))=keys (Aa0 G++(t.blocks++[])):=rfl;have hgB:g∈keys (Aa0 G++(t.blocks++[])):=by
     have:=(hperm0.map Prod.fst).mem_iff.1 (List.mem_map.2 ⟨_,List.mem_cons_self,rfl⟩:g∈_);exact this
    have hevo:Evo M (keys (Aa0 G++(t.blocks++[]))) w M (keys (Aa0 (Aa7 G s t'))) (w.setRow g (L.toList.take b++T.vals t.cells++L.toList.drop (b+t.cells.length)).toArray):=by
     refine ((Evo.refl M _ w).setRow hgB _).weaken fun k hk=>?_;have h1:k∈((Aa0 (Aa7 G s t')++[])++T.blocksC ((ec.drop o).take t.cells.length)).map Prod.fst:=by
      rw [List.append_nil,List.map_append];exact List.mem_append_left _ hk
     have h2:=(hperm1.map Prod.fst).mem_iff.1 h1;have h3:k∈((g,Obj.cells L e (0,0))::(bx++r++t.blocks)).map Prod.fst:=by simpa using h2
     exact (hperm0.map Prod.fst).mem_iff.1 h3
    have hfd:=Aaz hy hyn;refine ⟨w.setRow g (L.toList.take b++T.vals t.cells++L.toList.drop (b+t.cells.length)).toArray,?_⟩;by_cases hany:(((ec.map T.erase).drop o).take t.cells.length).any node1=true
    ·have hk:=Aoa hy hyn hec hc2 hset q1 (deadCells s ps i o t.cells.length) (fun b c r h1 h2=>.inl (by simp [deadCells,Ay0,cellIn,h1,h2]));obtain ⟨F1,k1,k2⟩:=h.path (Mem.le_refl M) q1 q2 _ hk htd' hwf' hfd hblk hmem;rw [hsa] at k1;cases k1;simp only [hany,if_true,zJ] at hd;subst hd;refine ⟨_,hrun,k2,?_⟩;rw [Aay];exact hevo
    ·have hany':(((ec.map T.erase).drop o).take t.cells.length).any node1=false:=by simpa using hany
     have hk:=Aoa hy hyn hec hc2 hset q1 Ae2 (fun b c r h1 h2=>.inr fun y0 z hy0 hz hzn=>Aru (Aks hyw hec) (T.tidy_elem hyt hec) hany' h1 h2 hy0 hz hzn);obtain ⟨F1,k1,k2⟩:=h.path (Mem.le_refl M) q1 q2 _ hk htd' hwf' hfd hblk hmem;rw [hsa] at k1;cases k1;simp only [hany',Bool.false_eq_true,if_false,zJ] at hd;subst hd;rw [Aij,Aik] at k2;exact ⟨_,hrun,k2,hevo⟩
end
end Go.Own
