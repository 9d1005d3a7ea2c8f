/- An interpreter of function bodies, sound. No conditions. -/
import Derived.Laws.Rows
import Derived.Test.YtcbhcnkfefbddaaGreatDoorOwn11
set_option linter.all false
open List renaming append_assoc->aA,perm_append_comm->aQ,mem_cons_self->a6,getElem?_take_of_lt->ba,take_append_drop->bB,mem_of_getElem?->bL,mem_append->b3,getElem?_drop->b5,append_nil->cu,drop_drop->cz,mem_cons_of_mem->cx,mem_of_mem_take->cD,mem_of_mem_drop->cA
open List.Perm renaming append_left->aM,append_right->bo,trans->c_
open Option renaming map_some->cc
open Prod renaming fst->cT
namespace Go.aS
open D
theorem dT.setRow{M:Mem}{w:World}{B:dD}{g e:Nat}{fr:Nat×Nat}{L L':Array Value}(h:dT M w ((g,.cells L e fr)::B)):dT M (w.setRow g L') ((g,.cells L' e fr)::B) where
 nodup:=by simpa using h.nodup
 heap x U:=by
  have ak:=h.heap (g,.cells L e fr) a6;rcases List.mem_cons.1 U with rfl|U
  .exact setRow_heap w g L L' e fr ak
  .have cI:x.1≠g:=by
    intro he;have:=h.nodup;simp only[List.map_cons,List.nodup_cons,List.mem_map,not_exists,not_and]at this;exact this.1 x U he
   rw[setRow_other w g x.1 L' cI];exact h.heap x (cx _ U)
 apart x U:=by
  rcases List.mem_cons.1 U with rfl|U
  .exact h.apart (g,.cells L e fr) a6
  .exact h.apart x (cx _ U)
theorem fE.setRow{M:Mem}{w:World}(h:fE M w){g:Nat}(ak:M g=none)(L:Array Value):fE M (w.setRow g L):=λk o aj=>by
 have:k≠g:=by rintro rfl;rw[ak]at aj;cases aj
 rw[setRow_other w g k L this];exact h k o aj
theorem cN.setRow{M b1:Mem}{B je:List Nat}{w w1:World}(e:cN M B w b1 je w1){g:Nat}(ak:g∈je)(L:Array Value):cN M B w b1 je (w1.setRow g L) where
 os:=e.os
 tape:=e.tape
 output:=e.output
 size:=by rw[size_setRow];exact e.size
 out k aj cg:=by
  have:k≠g:=by
   rintro rfl;rcases e.own k ak with h|h
   .exact cg h
   .omega
  rw[setRow_other w1 g k L this];exact e.out k aj cg
 iW:=e.iW
 jC:=e.jC
 own:=e.own
theorem T.alu{t bz:T}{i:Nat}{cs:List T}(ao:t.node=true)(h:t.df i cs=some bz):bz.val=t.val:=by
 cases t with
 |leaf d v=>simp[T.df]at h
 |own g cap e sp es=>simp only[T.df,aE]at h;subst h;simp[T.val]
 |nil=>simp only[T.df,aE]at h;subst h;rfl
 |agg=>simp[T.node]at ao
 |box g e b8=>cases i<;>simp[T.df]at h;subst h;simp[T.val]
 |map=>simp[T.df]at h
 |bld=>simp[T.df]at h
 |bt=>simp[T.node]at ao
theorem JL{k:Nat}:∀{es:List (List T)}{i:Nat}{e e':List T},(∀x∈es,x.length=k)->es[i]?=some e->e'.length=k->T.bH (es.set i e')=(T.bH es).take (i*k)++T.bP e'++(T.bH es).drop (i*k+k)
 |[],i,e,e',_,h,_=>by simp at h
 |x::es,0,e,e',aj,h,he=>by
  have U:(T.bP x).length=k:=by simp[aj x (by simp)]
  simp only[List.set_cons_zero,T.bH,Nat.zero_mul,List.take_zero,List.nil_append,Nat.zero_add];rw[<-U,List.drop_left]
 |x::es,i+1,e,e',aj,h,he=>by
  have U:(T.bP x).length=k:=by simp[aj x (by simp)]
  simp only[List.getElem?_cons_succ]at h;simp only[List.set_cons_succ,T.bH];rw[JL (λy aw=>aj y (by simp[aw])) h he];have I:(i+1)*k=(T.bP x).length+i*k:=by rw[U,Nat.succ_mul];omega
  have aa:(i+1)*k+k=(T.bP x).length+(i*k+k):=by rw[I];omega
  rw[aa,I,List.take_length_add_append,List.drop_length_add_append];simp only[aA]
theorem Qc(ct ts:List T)(o:Nat):(T.bq (ct.take o++ts++ct.drop (o+ts.length))++T.bq ((ct.drop o).take ts.length)).Perm (T.bq ct++T.bq ts):=by
 have r0:T.bq ct=T.bq (ct.take o)++(T.bq ((ct.drop o).take ts.length)++T.bq (ct.drop (o+ts.length))):=by
  rw[<-T.wS,<-cz,bB,<-T.wS,bB]
 rw[r0];simp only[T.wS,aA];refine aM _ ?_;generalize T.bq ts=A;generalize T.bq (ct.drop (o+ts.length))=B;generalize T.bq ((ct.drop o).take ts.length)=C;refine List.perm_append_comm.trans ?_;refine(bo A aQ).trans ?_;rw[aA]
theorem Zu{x:T}{i o:Nat}{v:Value}(af:wa x i o v){ct ts:List T}(he:x.elem i=some ct)(hl:o+ts.length<=ct.length):
  ∃g b L e mA x' DH,v=.pointer (some ⟨g,b,none⟩)/\x.blocks=(g,.cells L e (0,0))::mA/\x.df i (ct.take o++ts++ct.drop (o+ts.length))=some x' /\
   b+ts.length<=L.size/\x'.blocks=(g,.cells (L.toList.take b++T.bP ts++L.toList.drop (b+ts.length)).toArray e (0,0))::DH /\
   (DH++T.bq ((ct.drop o).take ts.length)).Perm (mA++T.bq ts):=by
 have ku:(ct.take o++ts++ct.drop (o+ts.length)).length=ct.length:=by simp;omega
 have nf:T.bP (ct.take o++ts++ct.drop (o+ts.length))=(T.bP ct).take o++T.bP ts++(T.bP ct).drop (o+ts.length):=by
  simp only[T.XI];simp[T.ny,List.map_take,List.map_drop]
 rcases af with⟨g,cap,e,sp,es,k,rfl,hi,aj,rfl⟩|⟨g,e,cs,rfl,rfl,rfl⟩
 .simp only[T.elem]at he;have rW:ct.length=k:=aj ct (bL he);have oS:=kg aj;have ag:i*k+k<=es.length*k:=by rw[<-Nat.succ_mul];exact Nat.mul_le_mul_right _ hi
  have eJ:=JL (e':=ct.take o++ts++ct.drop (o+ts.length)) aj he (by rw[ku,rW]);obtain⟨r,pL,mG⟩:=T.MQ he;refine⟨g,i*k+o,(T.bH es++sp).toArray,e,T.cO es,_,T.cO (es.set i (ct.take o++ts++ct.drop (o+ts.length))),rfl,by simp only[T.blocks],rfl,?_,?_,?_⟩
  .simp only[List.size_toArray,List.length_append,oS];omega
  .simp only[T.blocks];congr 4;rw[eJ,nf];have WN:((T.bH es).drop (i*k)).take k=T.bP ct:=by
    apply List.ext_getElem?;intro j;by_cases aH:j<k
    .rw [ba aH,b5];exact KU aj he j aH
    .rw [List.getElem?_take,if_neg aH];symm;rw[List.getElem?_eq_none_iff];simp;omega
   have aT:(T.bP ct).take o=((T.bH es).drop (i*k)).take o:=by rw[<-WN,List.take_take];congr 1;omega
   have a5:(T.bP ct).drop (o+ts.length)=((T.bH es).drop (i*k+(o+ts.length))).take (k-(o+ts.length)):=by
    rw[<-WN,List.drop_take,cz]
   have ez:(T.bH es).take (i*k)++((T.bH es).drop (i*k)).take o=(T.bH es).take (i*k+o):=by
    rw[List.take_add]
   have eK:((T.bH es).drop (i*k+(o+ts.length))).take (k-(o+ts.length))++(T.bH es).drop (i*k+k)=(T.bH es).drop (i*k+(o+ts.length)):=by
    have:i*k+k=(i*k+(o+ts.length))+(k-(o+ts.length)):=by omega
    rw[this,<-cz (i:=k-(o+ts.length)),bB]
   rw[aT,a5];have l1:(T.bH es).length=es.length*k:=oS;rw[List.take_append_of_le_length (by rw[l1];omega),List.drop_append_of_le_length (by rw[l1];omega)];rw[<-ez];have jk:i*k+o+ts.length=i*k+(o+ts.length):=by omega
   rw[jk];simp only[aA];rw[<-aA (List.take (k-(o+ts.length)) _),eK]
  .refine (bo _ (mG _).symm).trans ?_;refine c_ ?_ (bo _ pL);have oQ:=Qc ct ts o;generalize T.bq (ct.take o++ts++ct.drop (o+ts.length))=A at oQ⊢;generalize T.bq ((ct.drop o).take ts.length)=C at oQ⊢;have dk:((A++r)++C).Perm ((A++C)++r):=by
    rw[aA,aA];exact aM _ aQ
   have ea:((T.bq ct++T.bq ts)++r).Perm ((T.bq ct++r)++T.bq ts):=by
    rw[aA,aA];exact aM _ aQ
   exact dk.trans ((oQ.append_right r).trans ea)
 .simp only[T.elem,aE]at he;subst he;refine⟨g,o,(T.bP cs).toArray,e,T.bq cs,_,T.bq (cs.take o++ts++cs.drop (o+ts.length)),rfl,by simp only[T.blocks],rfl,by simpa using hl,?_,Qc cs ts o⟩;simp only[T.blocks,nf]
section
variable{n:Nat}{R:Nat->Value}{M:Mem}{F aD:Fr}{G:bK}{H:dD}{a:Act}{w:World}
theorem YB{ct:List T}{M:Mem}(hw:T.ga M ct)(al:T.ho ct){o k c:Nat}(h:(((ct.map T.erase).drop o).take k).any node1=false)(I:o<=c)(aa:c<o+k){y z:T}(ad:ct[c]?=some y){r:Path}(hr:y.bw r=some z)(aG:z.node=true):False:=by
 have hm:y.erase∈((ct.map T.erase).drop o).take k:=by
  rw[List.mem_iff_getElem?];refine⟨c-o,?_⟩;rw[ba (by omega),b5,List.getElem?_map];have:o+(c-o)=c:=by omega
  rw[this,ad];rfl
 have ao:y.erase.node1=false:=by
  have:=List.any_eq_false.1 h _ hm;simpa using this
 have nh:=(T.o4 ct).1 al y (bL ad);have xh:=(T.q6 M ct).1 hw y (bL ad);cases y with
 |leaf d v=>
  obtain⟨_,rfl⟩:=ua hr;cases d<;>simp_all [T.node,T.erase,D.node1]
 |agg=>simp[T.wf]at xh
 |bt=>simp[T.wf]at xh
 |_=>simp[T.erase,D.node1]at ao
theorem QY{G:bK}{s:Nat}{ps:Path}{x x' bz:T}{i o:Nat}{ct ts:List T}(U:(bg G s).bw ps=some x)(ao:x.node=true)(he:x.elem i=some ct)(hl:o+ts.length<=ct.length)(eJ:x.df i (ct.take o++ts++ct.drop (o+ts.length))=some x')
  (ae:(bg G s).cy ps x'=some bz) (dead:Bool->Nat->Path->Bool) (ah:∀b c r,o<=c->c<o+ts.length->dead b s (ps++(i,c)::r)=true∨(∀y z,ct[c]?=some y->y.bw r=some z->z.node=true->False)):mU G (dS G s bz) dead:=by
 have ku:(ct.take o++ts++ct.drop (o+ts.length)).length=ct.length:=by simp;omega
 intro bk p y aw fU
 suffices aU:(∃b,dead b bk p=false)->∃fw,(bg (dS G s bz) bk).bw p=some fw/\T.kB y fw from
  ⟨λh=>by
   obtain⟨fw,I,aa⟩:=aU ⟨_,h⟩
   exact⟨fw,I,T.tw aa fU,T.Bs aa⟩,λh=>aU ⟨_,h⟩⟩
 rintro⟨b,VZ⟩;by_cases EE:bk=s
 .subst EE;rw[vP];by_cases af:pre ps p=true
  .obtain ⟨r,rfl⟩:=(wj ps p).1 af;rw[T.DX ps U ae r];rw[T.DV ps U]at aw;cases r with
   |nil=>
    simp only[T.bw,aE]at aw⊢;subst aw;exact⟨x',rfl,T.Xs he ku eJ ao⟩
   |cons q r=>
    obtain⟨kA,c⟩:=q;simp only[T.bw]at aw⊢;rw[T.uU he eJ kA];by_cases hi:kA=i
    .subst hi;simp only[if_true,he]at aw⊢;by_cases ad:o<=c/\c<o+ts.length
     .rcases ah b c r ad.1 ad.2 with I|I
      .rw [I]at VZ;cases VZ
      .cases qI:ct[c]? with
       |none=>simp[qI]at aw
       |some wU=>simp only[qI]at aw;exact(I wU y qI aw fU).elim
     .have:(ct.take o++ts++ct.drop (o+ts.length))[c]?=ct[c]?:=by
       by_cases I:c<o
       .rw [aA,List.getElem?_append_left (by simp;omega),ba I]
       .have aa:o+ts.length<=c:=by omega
        rw[List.getElem?_append_right (by simp;omega),b5];congr 1;simp;omega
      rw[this];exact⟨y,aw,T.pR fU⟩
    .simp only[hi,if_false];exact⟨y,aw,T.pR fU⟩
  .exact T.DY ps U ae p y (by simpa using af) aw fU
 .rw [sx G bz EE];exact⟨y,aw,T.pR fU⟩
theorem abw{E:Env}{t:T}(h:Inv n R M F G (t.blocks++[]) a w)(e6:t.tidy)(aiU:dV M t){ty:Nat}{x:D}{v:Value}(U:de M G x v)(ah:xF E F ty x t.erase=some aD)(EI:∃i,E.P.info? ty=some i):
  ∃w' bS,(Instr.storeAt ty v t.val).run E.P w=.ok () w'/\Inv n R M aD bS [] a w'/\cN M (keys (a8 G++(t.blocks++[]))) w M (keys (a8 bS)) w':=by
 obtain⟨amJ,aka⟩:=EI;simp only[xF]at ah;cases af:gB F x with
 |none=>simp[af]at ah
 |some p=>
  have ajN:=GA h U af;cases p with
  |nj cs=>simp[af]at ah
  |loc s ps i o=>
   obtain⟨y,aw,fU,vf⟩:=ajN;have xh:=h.me aw fU;have nh:=h.k5 aw;simp only[af,h.b6,aw,cc]at ah;cases he:y.erase.elem i with
   |none=>simp[he]at ah
   |some ama=>
    obtain⟨ct,qI,V3⟩:=Qn nh vf he;simp only[he]at ah
    split at ah
    case isFalse=>cases ah
    rename_i ad;obtain⟨xa,n4⟩:=ad;obtain⟨cF,ck,dG,fh,e0⟩:=q_ aiU e6;rw[<-cF,<-V3]at ah;rw[<-cF]at xa;rw[<-V3]at n4;simp only[List.length_map]at xa n4;rw[<-xa]at n4 ah;obtain⟨g,b,L,e,mA,fw,DH,rfl,kY,eJ,ait,eS,lu⟩:=Zu vf qI n4;have ajm:(ct.map T.erase).take o++t.cells.map T.erase++(ct.map T.erase).drop (o+t.cells.length)=T.g7 (ct.take o++t.cells++ct.drop (o+t.cells.length)):=by
     simp[T.hz,List.map_take,List.map_drop]
    rw[ajm,T.Xr y nh,eJ]at ah;simp only[cc]at ah;have akd:=T.alu fU eJ;obtain⟨r,dk,ea⟩:=qd aw;obtain⟨bz,b_,cM,fI⟩:=ea fw akd;have qO:=h.setAt s ps fw;rw[b_]at qO;simp only[cc]at qO;simp only[qO]at ah;have rZ:((g,Obj.cells L e (0,0))::(mA++r++t.blocks)).Perm (a8 G++(t.blocks++[])):=by
     rw[cu];refine c_ ?_ (dk.append_right t.blocks);rw[kY];simp
    have s9:=h.bd.perm rZ.symm;have u6:M g=none:=s9.apart _ a6;have D5:dT M (w.setRow g (L.toList.take b++T.bP t.cells++L.toList.drop (b+t.cells.length)).toArray) ((g,_)::(mA++r++t.blocks)):=s9.setRow;have xf:((a8 (dS G s bz)++[])++T.bq ((ct.drop o).take t.cells.length)).Perm ((g,Obj.cells (L.toList.take b++T.bP t.cells++L.toList.drop (b+t.cells.length)).toArray e (0,0))::(mA++r++t.blocks)):=by
     rw[cu];refine(fI.symm.append_right _).trans ?_;rw[eS];simp only[List.cons_append];refine List.Perm.cons _ ?_;rw[<-e0];generalize T.bq ((ct.drop o).take t.cells.length)=C at lu⊢;have o5:((DH++r)++C).Perm ((DH++C)++r):=by
      rw[aA,aA];exact aM _ aQ
     have q5:((mA++T.bq t.cells)++r).Perm ((mA++r)++T.bq t.cells):=by
      rw[aA,aA];exact aM _ aQ
     exact o5.trans ((lu.append_right r).trans q5)
    have dI:=D5.xG xf;have eE:=h.mem.setRow u6 (L.toList.take b++T.bP t.cells++L.toList.drop (b+t.cells.length)).toArray;have zc:T.wf M fw:=by
     refine RW xh qI (by simp;omega) ?_ eJ;have hw:=Dc xh qI;rw[T.q6]at hw fh⊢;intro z aG;rcases b3.1 aG with aG|aG
     .rcases b3.1 aG with aG|aG
      .exact hw z (cD aG)
      .exact fh z aG
     .exact hw z (cA aG)
    have Bj:fw.tidy:=by
     refine T.XE nh ?_ eJ;have hw:=T.zz nh qI;rw[T.o4]at hw dG⊢;intro z aG;rcases b3.1 aG with aG|aG
     .rcases b3.1 aG with aG|aG
      .exact hw z (cD aG)
      .exact dG z aG
     .exact hw z (cA aG)
    have gA:(Instr.storeAt ty (.pointer (some ⟨g,b,none⟩)) t.val).run E.P w=.ok () (w.setRow g (L.toList.take b++T.bP t.cells++L.toList.drop (b+t.cells.length)).toArray):=by
     have oS:t.val.cells.size=t.cells.length:=by
      have:=congrArg List.length ck;simp at this;omega
     have c8:=run_storeCells_at E.P g b e (T.bP t.cells) 0 L w (s9.heap _ a6) (by simpa using ait) (JX fh);simp only[Nat.add_zero,T.XJ]at c8;have fO:t.val.cells.size=aY E.P ty:=by rw[oS];exact xa
     rw[ck]at c8;unfold Instr.storeAt storeVar;rw[Sem.run_bind];simp only[Instr.sureAddr,Sem.run_pure,Result.andThen_ok,Sem.run_bind,re aka w,fO,ne_eq,not_true_eq_false,if_false,c8,ck]
    have jJ:keys (a8 G++(t.blocks++[]))=keys (a8 G++(t.blocks++[])):=rfl;have rR:g∈keys (a8 G++(t.blocks++[])):=by
     have:=(rZ.map cT).mem_iff.1 (List.mem_map.2 ⟨_,a6,rfl⟩:g∈_);exact this
    have V7:cN M (keys (a8 G++(t.blocks++[]))) w M (keys (a8 (dS G s bz))) (w.setRow g (L.toList.take b++T.bP t.cells++L.toList.drop (b+t.cells.length)).toArray):=by
     refine((cN.refl M _ w).setRow rR _).weaken λk aj=>?_;have I:k∈((a8 (dS G s bz)++[])++T.bq ((ct.drop o).take t.cells.length)).map cT:=by
      rw[cu,List.map_append];exact List.mem_append_left _ aj
     have aa:=(xf.map cT).mem_iff.1 I;have aB:k∈((g,Obj.cells L e (0,0))::(mA++r++t.blocks)).map cT:=by simpa using aa
     exact(rZ.map cT).mem_iff.1 aB
    have A4:=p5 aw fU;refine⟨w.setRow g (L.toList.take b++T.bP t.cells++L.toList.drop (b+t.cells.length)).toArray,?_⟩;by_cases VO:(((ct.map T.erase).drop o).take t.cells.length).any node1=true
    .have aj:=QY aw fU qI n4 eJ b_ (rH s ps i o t.cells.length) (λb c r I aa=>.inl (by simp[rH,aah,HK,I,aa]));obtain⟨aX,b9,k2⟩:=h.path (Mem.le_refl M) b_ cM _ aj Bj zc A4 dI eE;rw[qO]at b9;cases b9;simp only[VO,if_true,aE]at ah;subst ah;refine⟨_,gA,k2,?_⟩;rw[p4];exact V7
    .have VP:(((ct.map T.erase).drop o).take t.cells.length).any node1=false:=by simpa using VO
     have aj:=QY aw fU qI n4 eJ b_ pc (λb c r I aa=>.inr λamM z akl aG zi=>YB (Dc xh qI) (T.zz nh qI) VP I aa akl aG zi);obtain⟨aX,b9,k2⟩:=h.path (Mem.le_refl M) b_ cM _ aj Bj zc A4 dI eE;rw[qO]at b9;cases b9;simp only[VP,Bool.false_eq_true,if_false,aE]at ah;subst ah;rw[JS,JT]at k2;exact⟨_,gA,k2,V7⟩
end
end Go.aS
