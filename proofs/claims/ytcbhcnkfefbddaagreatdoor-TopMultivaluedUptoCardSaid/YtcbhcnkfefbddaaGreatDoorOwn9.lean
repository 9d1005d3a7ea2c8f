/- An interpreter of function bodies, sound. No conditions. -/
import Derived.Laws.AppendOwn
import Derived.Laws.Entries
import Derived.Laws.StructEq
import Derived.Shelf.Abstract
import Derived.Test.YtcbhcnkfefbddaaGreatDoorOwn8
set_option linter.all false
open List renaming getElem?_eq_some_iff->aA,mem_of_getElem?->aM,getElem?_take->a6,getElem?_map->ba,getElem?_drop->bo,getElem?_append_left->bB,length_map->bL,mem_cons_self->b5,length_take->cc
open Option renaming map_some->aQ
open Nat renaming succ_mul->b3
namespace Go.aS
open D
theorem acZ{M:Mem}{G:bK}{c:D}{u:Value}(h:j1 M G c u):∃t:T,t.erase=c/\t.val=u/\t.tidy/\lf M G t/\t.blocks=[]:=by
 obtain⟨I,aa|⟨rfl,rfl⟩⟩:=h
 .refine ⟨.leaf c u,by simp[T.erase],by simp[T.val],?_,⟨aa,I⟩,by simp[T.blocks]⟩;cases c<;>simp_all [T.tidy,aJ,bu]
 .exact ⟨.nil,by simp[T.erase],by simp[T.val],by simp[T.tidy],by simp[lf,T.wf],by simp[T.blocks]⟩
theorem abL{M:Mem}{G:bK}{d:D}{v:Value}(h:de M G d v):∃t:T,t.erase=d/\t.val=v/\t.tidy/\fg M G t/\t.blocks=[]:=by
 have leaf:∀d,fm M G d v->∃t:T,t.erase=d/\t.val=v/\t.tidy/\fg M G t/\t.blocks=[]:=λd k=>by
  refine⟨.leaf d v,by simp[T.erase],by simp[T.val],?_,k,by simp[T.blocks]⟩;cases d<;>simp_all [T.tidy,fm,aJ,bu]
 cases d with
 |agg cs=>
  obtain⟨vs,rfl,h⟩:=h;clear leaf;have:∃ts:List T,ts.map T.erase=cs/\T.bP ts=vs/\T.ho ts/\(∀c∈ts,lf M G c)/\T.bq ts=[]:=by
   induction h with
   |nil=>exact⟨[],rfl,rfl,trivial,by simp,by simp[T.bq]⟩
   |cons p _ aN=>
    obtain⟨ts,cb,cK,cS,dh,dr⟩:=aN;obtain⟨t,a2,bA,a3,a4,cj⟩:=acZ p;refine⟨t::ts,by simp[a2,cb],by simp[T.bP,bA,cK],⟨a3,cS⟩,?_,by simp[T.bq,cj,dr]⟩;intro c ad;rcases List.mem_cons.1 ad with rfl|ad
    .exact a4
    .exact dh c ad
  obtain⟨ts,cb,cK,cS,dh,dr⟩:=this;exact⟨.agg ts,by simp[T.erase,T.hz,cb],by simp[T.val,cK],cS,dh,by simp[T.blocks,dr]⟩
 |own es=>
  cases es with
  |nil=>simp only[de]at h;subst h;exact⟨.nil,by simp[T.erase],by simp[T.val],by simp[T.tidy],by simp[fg,T.wf],by simp[T.blocks]⟩
  |cons=>exact leaf _ h
 |_=>exact leaf _ h
theorem aeh{M:Mem}{G:bK}{c:D}{u:Value}(h:j1 M G c u):de M G c u:=by
 obtain⟨I,aa|⟨rfl,rfl⟩⟩:=h
 .cases c with
  |agg=>simp[aJ,bu]at aa
  |own=>simp[aJ,bu]at aa
  |fn f cs=>exact jY (Df aa)
  |_=>exact jY (by simpa only[fm]using aa)
 .rfl
def keys(B:dD):List Nat:=B.map Prod.fst
section
variable{n:Nat}{R:Nat->Value}{M:Mem}{F aD:Fr}{G:bK}{H:dD}{a:Act}{w:World}
def cJ(n:Nat)(R:Nat->Value)(M:Mem)(B:List Nat)(w:World)(aD:Fr)(cp:Act)(w':World):Prop:=
 ∃M' bS,Inv n R M' aD bS [] cp w'/\cN M B w M' (keys (a8 bS)) w'
theorem kM{B:List Nat}{w1:World}{M':Mem}{aX:Fr}{bQ:bK}{t:T}(h:Inv n R M' aX bQ (t.blocks++[]) a w1)(al:t.tidy)(ae:fg M' bQ t)(dst:Option Nat)(ah:∀d,dst=some d->d<n)
  (e:cN M B w M' (keys (a8 bQ++(t.blocks++[]))) w1):cJ n R M B w (fin aX dst t.erase) (a.put dst t.val) w1:=by
 obtain⟨bS,I,aa⟩:=h.put al ae dst ah;refine⟨M',bS,I,e.weaken λg ak=>?_⟩;have:=aa g (by simpa[keys]using ak);simpa[keys]using this
theorem ih(h:Inv n R M F G [] a w){d:D}{v:Value}(av:de M G d v)(dst:Option Nat)(ah:∀d,dst=some d->d<n):
  cJ n R M (keys (a8 G)) w (fin F dst d) (a.put dst v) w:=by
 obtain⟨t,a2,bA,a3,a4,cj⟩:=abL av;have:=kM (M:=M) (w:=w) (by rw[cj];exact h) a3 a4 dst ah (B:=keys (a8 G)) (by rw[cj];simpa using cN.refl M (keys (a8 G)) w);rw[a2,bA]at this;exact this
end
variable{P:Program}
theorem TL{op:BinOp}{t:Nat}{x y z:Value}(h:qu op x y=some z)(w:World):(binOp op t x y).run P w=.ok z w:=by
  cases x<;>cases y<;>simp only[qu]at h<;>try (cases h;done)
  · rename_i k a k' b
    cases op<;>simp only[binOp,Op.shift]at h⊢
    all_goals
      first
      |(split at h<;>first|(cases h;done)|(rename_i aj;simp only[aE]at h;subst h;simp[aj,Op.intArith,Op.intBits,Op.intCmp]))
      |skip
    all_goals
      (split at h
       · cases h
       · rename_i aj
         split at h
         · cases h
         · rename_i ag;simp only[aE]at h;subst h
           have iU:k=k':=by simpa using aj
           simp[iU,Op.intDiv,ag])
  · rename_i a b
    cases op<;>simp only[binOp,Op.stringOp,aE]at h⊢<;>try (cases h;done)
    all_goals first
      |(subst h;rfl)
      | (split at h
         · rename_i hl
           simp only[aE]at h;subst h;have:¬((a.size+b.size:Nat):Int) > 9223372036854775807:=by omega
           have hm:IntKind.i64.max=9223372036854775807:=by decide
           simp only[hm,this,if_false,Sem.run_pure]
         · cases h)
theorem YN{op:BinOp}{x y z:Value}(h:qu op x y=some z):z.oneCell'=true:=by
 cases x<;>cases y<;>simp only[qu]at h<;>try (cases h;done)
 .cases op<;>simp only at h
  all_goals (repeat' split at h)<;>first|(cases h;done)|(simp only[aE]at h;subst h;rfl)
 .cases op<;>simp only at h
  all_goals (repeat' split at h)<;>first|(cases h;done)|(simp only[aE]at h;subst h;rfl)
theorem afY{op:UnOp}{x z:Value}(h:Jq op x=some z)(w:World):(Op.unary op x).run P w=.ok z w/\z.oneCell'=true:=by
 cases x<;>simp only[Jq]at h<;>try (cases h;done)
 all_goals cases op<;>simp only at h<;>first|(cases h;done)|(simp only[aE]at h;subst h;simp[Op.unary,Op.intArith,Op.intBits,Value.oneCell'])
end Go.aS
namespace Go.aS
open D
def Uz(M:Mem)(G:bK):Ptr->Value->Prop
 | .nj cs,v=>bu M (.ref cs) v
 | .loc s ps i o,v=>∃x,(bg G s).bw ps=some x/\x.node=true/\wa x i o v
theorem om{t:T}(al:t.tidy){es:List (List D)}(h:t.erase=.own es):(∃g cap e sp ts,t=.own g cap e sp ts/\ts.map (·.map T.erase)=es)∨(t=.nil/\es=[]):=by
 cases t with
 |leaf d v=>simp only[T.erase]at h;subst h;simp[T.tidy]at al
 |own g cap e sp ts=>simp only[T.erase,D.own.injEq]at h;exact .inl ⟨g,cap,e,sp,ts,rfl,by rw[<-T.lU];exact h⟩
 |nil=>simp only[T.erase,D.own.injEq]at h;exact .inr ⟨rfl,h.symm⟩
 |_=>simp[T.erase]at h
theorem Kw{t:T}(al:t.tidy){cs:List D}(h:t.erase=.box cs):∃g e ts,t=.box g e ts/\ts.map T.erase=cs:=by
 cases t with
 |leaf d v=>simp only[T.erase]at h;subst h;simp[T.tidy]at al
 |box g e ts=>simp only[T.erase,D.box.injEq]at h;exact⟨g,e,ts,rfl,by rw[<-T.hz];exact h⟩
 |_=>simp[T.erase]at h
theorem zZ{t:T}{es:List (List D)}(h:t.erase=.sl es):t=.leaf (.sl es) t.val:=by
 cases t with
 |leaf d v=>simp only[T.erase]at h;subst h;rfl
 |_=>simp[T.erase]at h
theorem Se{t:T}{es:List D}(h:t.erase=.ref es):t=.leaf (.ref es) t.val:=by
 cases t with
 |leaf d v=>simp only[T.erase]at h;subst h;rfl
 |_=>simp[T.erase]at h
section
variable{n:Nat}{R:Nat->Value}{M:Mem}{F aD:Fr}{G:bK}{H:dD}{a:Act}{w:World}
theorem Inv.me(h:Inv n R M F G H a w){s:Nat}{ps:Path}{x:T}(U:(bg G s).bw ps=some x)(ao:x.node=true):T.wf M x:=J6 (h.iJ s) U ao
theorem Inv.k5(h:Inv n R M F G H a w){s:Nat}{ps:Path}{x:T}(U:(bg G s).bw ps=some x):x.tidy:=T.Jn ps (h.jq s) U
theorem Inv.block(h:Inv n R M F G H a w){s:Nat}{ps:Path}{x:T}(U:(bg G s).bw ps=some x){b:Nat×Obj}(ag:b∈x.blocks):w.heap[b.1]?=some b.2/\b∈a8 G:=by
 obtain⟨r,dk,_⟩:=qd U;have:b∈a8 G:=dk.mem_iff.1 (by simp[ag]);exact⟨h.bd.heap b (by simp[this]),this⟩
theorem tZ{M:Mem}{d:D}{v:Value}(h:T.wf M (.leaf d v))(ah:d≠.undef):bu M d v:=by
 rcases h with⟨hu,_⟩|h
 .exact absurd hu ah
 .exact h
theorem GA(h:Inv n R M F G H a w){d:D}{v:Value}(av:de M G d v){p:Ptr}(af:gB F d=some p):Uz M G p v:=by
 cases d with
 |ref cs=>simp only[gB,aE]at af;subst af;exact av
 |place s ps i o=>simp only[gB,aE]at af;subst af;exact av
 |alias s ps=>
  obtain⟨x,U,ao,rfl⟩:=av;simp only[gB,h.b6,U,aQ]at af
  split at af
  .rename_i cs he;simp only[aE]at he af;subst af;obtain⟨g,e,ts,rfl,_⟩:=Kw (h.k5 U) he;exact⟨_,U,ao,.inr ⟨g,e,ts,rfl,rfl,rfl⟩⟩
  .rename_i cs he;simp only[aE]at he af;subst af;have e:=Se he;have hw:=h.me U ao;rw[e]at hw;exact tZ hw (by simp)
  .cases af
 |_=>simp[gB]at af
theorem KU{k:Nat}:∀{es:List (List T)}{i:Nat}{e:List T},(∀x∈es,x.length=k)->es[i]?=some e->∀j,j<k->(T.bH es)[i*k+j]?=(T.bP e)[j]?
 |[],i,e,_,h,_,_=>by simp at h
 |x::es,0,e,aj,h,j,aH=>by
  simp only[List.getElem?_cons_zero,aE]at h;subst h;simp only[T.bH,Nat.zero_mul,Nat.zero_add];rw[bB (by simp[aj x (by simp),aH])]
 |x::es,i+1,e,aj,h,j,aH=>by
  simp only[List.getElem?_cons_succ]at h;simp only[T.bH];have U:(T.bP x).length=k:=by simp[aj x (by simp)]
  rw[List.getElem?_append_right (by rw[U,b3];omega),U];have:(i+1)*k+j-k=i*k+j:=by rw[b3];omega
  rw[this];exact KU (λy aw=>aj y (by simp[aw])) h j aH
theorem Zt{x:T}{i o:Nat}{v:Value}(af:wa x i o v){ct:List T}(he:x.elem i=some ct):
  ∃g b L e,v=.pointer (some ⟨g,b,none⟩)/\(g,Obj.cells L e (0,0))∈x.blocks/\∀j,o+j<ct.length->L[b+j]?=(T.bP ct)[o+j]?:=by
 rcases af with⟨g,cap,e,sp,es,k,rfl,hi,aj,rfl⟩|⟨g,e,cs,rfl,rfl,rfl⟩
 .refine ⟨g,i*k+o,_,e,rfl,by simp only[T.blocks];exact b5,λj aH=>?_⟩;simp only[T.elem]at he;have hl:ct.length=k:=aj ct (aM he);have ag:i*k+(o+j)<(T.bH es).length:=by
   rw[kg aj];have:i*k+k<=es.length*k:=by rw[<-b3];exact Nat.mul_le_mul_right _ hi
   omega
  simp only[List.getElem?_toArray,Nat.add_assoc];rw[bB ag];exact KU aj he (o+j) (by omega)
 .simp only[T.elem,aE]at he;subst he;exact⟨g,o,_,e,rfl,by simp only[T.blocks];exact b5,λj aH=>by simp⟩
theorem Qn{x:T}(al:x.tidy){i o:Nat}{v:Value}(af:wa x i o v){ct:List D}(he:x.erase.elem i=some ct):∃ts,x.elem i=some ts/\ts.map T.erase=ct:=by
 rw[T.MZ x al]at he;cases h:x.elem i with
 |none=>simp[h]at he
 |some ts=>simp only[h,aQ,aE]at he;exact⟨ts,rfl,by rw[<-T.hz];exact he⟩
end
section
variable{P:Program}{n:Nat}{R:Nat->Value}{M:Mem}{F aD:Fr}{G:bK}{H:dD}{a:Act}{w:World}
theorem CA{P:Program}{t:Nat}{d:TypeDesc}(hu:P.underlying t=some d)(w:World):(isAgg t).run P w=.ok (h0 P t) w:=by
 unfold isAgg;rw[Sem.run_bind,run_underlying hu w];simp only[Result.andThen_ok,h0,hu];cases d<;>rfl
theorem re{P:Program}{t:Nat}{i:TypeInfo}(hi:P.info? t=some i)(w:World):(sizeOf t).run P w=.ok (aY P t) w:=by
 simp[sizeOf,typeInfo,hi,aY]
theorem xL{P:Program}{t:Nat}{d:TypeDesc}(h:P.underlying t=some d):∃i,P.info? t=some i:=by
 unfold Program.underlying at h;cases au:P.info? t with
 |none=>simp[au]at h
 |some i=>exact⟨i,rfl⟩
theorem FN{P:Program}{t:Nat}{w:World}{g b:Nat}{vs:List Value}{d:TypeDesc}(hu:P.underlying t=some d)(ad:∀j u,vs[j]?=some u->w.cell? ⟨g,b+j,none⟩=some u)(hl:vs.length=aY P t)
  (I:h0 P t=false->aY P t=1):(loadVar t ⟨g,b,none⟩).run P w=.ok (if h0 P t then .agg vs.toArray else vs.getD 0 undef) w:=by
 obtain⟨i,hi⟩:=xL hu;unfold loadVar;rw[Sem.run_bind,CA hu w];simp only[Result.andThen_ok]
 split
 .have pF:=run_loadCells_list (P:=P) w ⟨g,b,none⟩ vs (λj v av=>by rw[Addr.add_plain];exact ad j v av);simp only[Sem.run_bind,re hi w,Result.andThen_ok,<-hl,pF,Sem.run_pure]
 .rename_i dB;have ae:=I (by simpa using dB);rw[ae]at hl
  match vs,hl with
  |[u],_=>
   have:=ad 0 u rfl;simp only[Nat.add_zero]at this;simp[run_load,this]
theorem c4.drop{M:Mem}:∀{cs:List D}{vs:List Value}(k:Nat),c4 M cs vs->c4 M (cs.drop k) (vs.drop k)
 |cs,vs,0,h=>by simpa using h
 |[],vs,k+1,h=>by simp only[c4]at h;subst h;simp[c4]
 |c::cs,vs,k+1,h=>by
  simp only[c4]at h;obtain⟨v,k9,rfl,_,aa⟩:=h;simpa using c4.drop k aa
theorem c4.take{M:Mem}:∀{cs:List D}{vs:List Value}(k:Nat),c4 M cs vs->c4 M (cs.take k) (vs.take k)
 |cs,vs,0,h=>by simp[c4]
 |[],vs,k+1,h=>by simp only[c4]at h;subst h;simp[c4]
 |c::cs,vs,k+1,h=>by
  simp only[c4]at h;obtain⟨v,k9,rfl,I,aa⟩:=h;simp only[List.take_succ_cons,c4];exact⟨v,k9.take k,rfl,I,c4.take k aa⟩
theorem Ub{M:Mem}{G:bK}:∀{cs:List D}{vs:List Value},c4 M cs vs->ff (j1 M G) cs vs
 |[],vs,h=>by simp only[c4]at h;subst h;exact .nil
 |c::cs,vs,h=>by
  simp only[c4]at h;obtain⟨v,k9,rfl,I,aa⟩:=h;exact .cons ⟨I.one,.inl (G_ I)⟩ (Ub aa)
theorem Kn{M:Mem}{G:bK}{b:Bool}{cs:List D}{vs:List Value}(h:ff (j1 M G) cs vs){d:D}(ah:se b cs=some d):de M G d (if b then .agg vs.toArray else vs.getD 0 undef)/\(b=false->vs.length=1):=by
 unfold se at ah
 split at ah
 .rename_i ag;simp only[aE]at ah;subst ah;subst ag;exact⟨⟨vs,rfl,h⟩,by simp⟩
 .rename_i ag;cases h with
  |nil=>cases ah
  |cons p q=>cases q with
   |nil=>
    simp only[aE]at ah;subst ah;simp only[ag];exact⟨aeh p,λ_=>rfl⟩
   |cons=>cases ah
theorem At.heap(hm:fE M w){g b:Nat}{vs:List Value}(h:At M g b vs):∀j u,vs[j]?=some u->w.cell? ⟨g,b+j,none⟩=some u:=by
 obtain⟨cs,e,fr,I,aa⟩:=h;intro j u hu;rw[cell_of_row w g (b+j) cs e fr (hm g _ I)];exact aa j u hu
theorem Yq{M:Mem}{G:bK}{ct:List T}(h:T.ga M ct):∀c∈ct,lf M G c:=λc ad=>zV ((T.q6 M ct).1 h c ad)
theorem acs{E:Env}(h:Inv n R M F G H a w){t:Nat}{x d:D}{v:Value}(U:de M G x v)(ah:oa E F t x=some d):
  ∃u,(Instr.loadAt t v).run E.P w=.ok u w/\de M G d u:=by
 unfold oa at ah;cases hu:E.P.underlying t with
 |none=>simp[hu]at ah
 |some tM=>
 simp only[hu,Option.isNone_some,Bool.false_eq_true,if_false]at ah;cases af:gB F x with
 |none=>simp[af]at ah
 |some p=>
  have fT:=GA h U af;simp only[af]at ah;cases p with
  |nj cs=>
   simp only at ah
   split at ah
   .rename_i hl;have VG:bu M (.ref cs) v:=fT;simp only[bu]at VG;obtain⟨g,b,vs,rfl,c2,cQ⟩:=VG;have tj:=cQ.length;obtain⟨b9,k2⟩:=Kn (G:=G) (Ub (cQ.take (aY E.P t))) ah;have hlen:(vs.take (aY E.P t)).length=aY E.P t:=by rw[cc];omega
    refine⟨_,?_,b9⟩;simp only[Instr.loadAt,Instr.sureAddr,Sem.run_bind,Sem.run_pure,Result.andThen_ok];refine FN hu ?_ hlen (λag=>by rw[<-hlen];exact k2 ag);have:=(c2.part 0 (aY E.P t)).heap h.mem;simpa using this
   .cases ah
  |loc s ps i o=>
   obtain⟨y,aw,ao,vf⟩:=fT;simp only[h.b6,aw,aQ]at ah;cases he:y.erase.elem i with
   |none=>simp[he]at ah
   |some ct=>
    simp only[he]at ah
    split at ah
    .rename_i hl;obtain⟨ts,qH,u5⟩:=Qn (h.k5 aw) vf he;have hw:=Dc (h.me aw ao) qH;have e6:=T.zz (h.k5 aw) qH;obtain⟨g,b,L,e,rfl,ag,ad⟩:=Zt vf qH;have bU:ct.length=ts.length:=by rw[<-u5];simp
     have dZ:ff (j1 M G) (xK s ps i o (((ts.drop o).take (aY E.P t)).map T.erase)) (((ts.drop o).take (aY E.P t)).map T.val):=by
      refine J3 aw qH _ o (λj c aH=>?_) (λc hm=>?_)
      .have tg:j<aY E.P t:=by
        by_cases tg:j<aY E.P t
        .exact tg
        .rw [a6,if_neg tg]at aH;cases aH
       rw[a6,if_pos tg,bo]at aH;exact aH
      .have e8:=List.mem_of_mem_drop (List.mem_of_mem_take hm);exact⟨(T.o4 ts).1 e6 c e8,Yq hw c e8⟩
     rw[List.map_take,List.map_drop,u5]at dZ;obtain⟨b9,k2⟩:=Kn dZ ah;refine⟨_,?_,b9⟩;simp only[Instr.loadAt,Instr.sureAddr,Sem.run_bind,Sem.run_pure,Result.andThen_ok];have hlen:(((ts.drop o).take (aY E.P t)).map T.val).length=aY E.P t:=by
      rw[bL,cc,List.length_drop];omega
     refine FN hu (λj u aH=>?_) hlen (λag=>by rw[<-hlen];exact k2 ag);have tg:j<aY E.P t:=by rw[<-hlen];exact(aA.1 aH).1
     have dI:=(h.block aw ag).1;rw[cell_of_row w g (b+j) L e (0,0) dI,ad j (by omega),T.ny,ba];rw[ba,a6,if_pos tg,bo]at aH;exact aH
    .cases ah
end
end Go.aS
namespace Go.aS
open D
section
variable{n:Nat}{R:Nat->Value}{M:Mem}{F aD:Fr}{G:bK}{H:dD}{a:Act}{w:World}
theorem QU{P:Program}{t j:Nat}{fd:Field}(h:n1 P t j=some fd):∃fs,P.underlying t=some (.struct fs)/\fs[j]?=some fd:=by
 unfold n1 at h
 split at h
 .rename_i fs he;exact⟨fs,he,h⟩
 .cases h
theorem tX{P:Program}{t e:Nat}(h:eD P t=some e):P.underlying t=some (.slice e):=by
 unfold eD at h
 split at h
 .rename_i e' he;simp only[aE]at h;subst h;exact he
 .cases h
theorem QP{P:Program}{t k e:Nat}(h:yv P t=some (k,e)):P.underlying t=some (.array k e):=by
 unfold yv at h
 split at h
 .rename_i k' e' he;simp only[aE,Prod.mk.injEq]at h;obtain⟨rfl,rfl⟩:=h;exact he
 .cases h
theorem sy{P:Program}{t:Nat}(h:0<aY P t):∃i,P.info? t=some i:=by
 unfold aY at h;cases au:P.info? t with
 |none=>simp[au]at h
 |some i=>exact⟨i,rfl⟩
theorem RY{M:Mem}{G:bK}{p:Ptr}{v:Value}(h:Uz M G p v):∃g b,v=.pointer (some ⟨g,b,none⟩) /\
  (∀cs,p=.nj cs->∀k,bu M (.ref (cs.drop k)) (.pointer (some ⟨g,b+k,none⟩))) /\
  (∀s ps i o,p=.loc s ps i o->∀k,aJ M G (.place s ps i (o+k)) (.pointer (some ⟨g,b+k,none⟩))):=by
 cases p with
 |nj cs=>
  have da:bu M (.ref cs) v:=h;simp only[bu]at da;obtain⟨g,b,vs,rfl,c2,cQ⟩:=da;refine⟨g,b,rfl,λb8 ad k=>?_,λ_ _ _ _ ad=>by cases ad⟩;cases ad;simp only[bu];refine⟨g,b+k,vs.drop k,rfl,?_,cQ.drop k⟩;have:=c2.part k (vs.drop k).length
  rwa [List.take_length]at this
 |loc s ps i o=>
  obtain⟨x,U,ao,af⟩:=h;rcases af with⟨g,cap,e,sp,es,k,rfl,hi,aj,rfl⟩|⟨g,e,cs,rfl,rfl,rfl⟩
  .refine ⟨g,i*k+o,rfl,λ_ ad=>(by cases ad),λbk pW kA o' ad j=>?_⟩;cases ad;exact⟨_,U,ao,.inl ⟨g,cap,e,sp,es,k,rfl,hi,aj,by rw[Nat.add_assoc]⟩⟩
  .refine ⟨g,o,rfl,λ_ ad=>(by cases ad),λbk pW kA o' ad j=>?_⟩;cases ad;exact⟨_,U,ao,.inr ⟨g,e,cs,rfl,rfl,rfl⟩⟩
theorem Rq{E:Env}(h:Inv n R M F G H a w){t j:Nat}{fd:Field}(hf:n1 E.P t j=some fd)(ae:0<aY E.P fd.type){x:D}{v:Value}(U:de M G x v){p:Ptr}(af:gB F x=some p):
  ∃u,(Instr.fieldAt t v j).run E.P w=.ok u w/\de M G (match p with| .nj cs=>.ref (cs.drop fd.offset)| .loc s ps i c=>.place s ps i (c+fd.offset)) u:=by
 obtain⟨g,b,rfl,b9,k2⟩:=RY (GA h U af);obtain⟨fs,aT,a5⟩:=QU hf;obtain⟨i,hi⟩:=sy ae;refine⟨.pointer (some ⟨g,b+fd.offset,none⟩),?_,?_⟩
 .simp only[Instr.fieldAt,Sem.run_bind,run_underlying aT w,Result.andThen_ok,a5,Instr.sureAddr,Sem.run_pure,fieldPlace,re hi w];have:¬aY E.P fd.type=0:=by omega
  simp[this,Addr.add_plain]
 .cases p with
  |nj cs=>exact jY (d:=.ref _) (b9 cs rfl _)
  |loc s ps i o=>exact jY (d:=.place _ _ _ _) (k2 s ps i o rfl _)
theorem zM{d:D}{i:Nat}(h:asNat d=some i):∃k m,d=.lit (.int k m)/\0<=m/\m.toNat=i:=by
 unfold asNat at h;cases ah:asInt d with
 |none=>simp[ah]at h
 |some m=>
  simp only[ah]at h
  split at h
  .rename_i hm;simp only[aE]at h;unfold asInt at ah
   split at ah
   .rename_i k k4;simp only[aE]at ah;subst ah;exact⟨k,_,rfl,hm,h⟩
   .cases ah
  .cases h
theorem jd{M:Mem}{G:bK}{x v:Value}(h:de M G (.lit x) v):v=x:=by
 simp only[de,fm,aJ,bu]at h;exact h.1
theorem lM{M:Mem}{G:bK}{v:Value}(h:v.oneCell'=true):de M G (.lit v) v:=by
 simp only[de,fm,aJ,bu];exact⟨trivial,h⟩
theorem Cm{P:Program}{t e:Nat}(al:P.underlying t=some (.slice e)){i:TypeInfo}(hi:P.info? e=some i){g b c l:Nat}{k:IntKind}{m:Int}(aO:0<=m)(I:m<l)(w:World):
  (Instr.indexAt t (.slice (some ⟨g,b,none⟩) l c) (.int k m)).run P w=.ok (.pointer (some ⟨g,b+m.toNat*aY P e,none⟩)) w:=by
 simp[Instr.indexAt,asIntOf,run_underlying al,aO,I,re hi,Addr.add_plain]
theorem P_{P:Program}{t e l:Nat}(al:P.underlying t=some (.array l e)){i:TypeInfo}(hi:P.info? e=some i){g b:Nat}{k:IntKind}{m:Int}(aO:0<=m)(I:m<l)(w:World):
  (Instr.indexAt t (.pointer (some ⟨g,b,none⟩)) (.int k m)).run P w=.ok (.pointer (some ⟨g,b+m.toNat*aY P e,none⟩)) w:=by
 simp[Instr.indexAt,asIntOf,run_underlying al,aO,I,re hi,Addr.add_plain,Instr.sureAddr]
theorem GH{M:Mem}{es:List (List D)}{v:Value}(h:bu M (.sl es) v){i:Nat}{c:List D}(ad:es[i]?=some c):
  ∃g b cap,v=.slice (some ⟨g,b,none⟩) es.length cap/\bu M (.ref c) (.pointer (some ⟨g,b+i*c.length,none⟩)):=by
 simp only[bu]at h;obtain⟨A,l,cap,rfl,rfl,aB,aW,bO⟩:=h;rcases bO with bO|⟨g,b,k,vs,rfl,c2,jJ,aj,cQ⟩
 .subst bO;simp at ad
 .refine ⟨g,b,cap,rfl,?_⟩;have yQ:c.length=k:=aj c (aM ad);have I:=cQ.drop aj i;obtain⟨bU,he⟩:=aA.1 ad;have NG:es.drop i=c::es.drop (i+1):=by rw[<-he];exact List.drop_eq_getElem_cons bU
  rw[NG]at I;simp only[fo]at I;obtain⟨v1,v2,aT,a5,_⟩:=I;simp only[bu];refine⟨g,b+i*c.length,v1,rfl,?_,a5⟩;have:=c2.part (i*k) v1.length;rw[aT,List.take_left]at this;rw[yQ];exact this
theorem Z7{E:Env}(h:Inv n R M F G H a w){t:Nat}{x ix d:D}{v u:Value}(U:de M G x v)(hi:de M G ix u)(ah:nm E F t x ix=some d):
  ∃z,(Instr.indexAt t v u).run E.P w=.ok z w/\de M G d z:=by
 unfold nm at ah;cases ao:asNat ix with
 |none=>simp[ao]at ah
 |some i=>
  obtain⟨amx,Bn,rfl,oN,rfl⟩:=zM ao;have:=jd hi;subst this;simp only[ao]at ah;cases iE:eD E.P t with
  |some e=>
   have gq:=tX iE;simp only[iE]at ah;cases x with
   |sl es=>
    simp only at ah;cases ad:es[Bn.toNat]? with
    |none=>simp[ad]at ah
    |some c=>
     simp only[ad]at ah
     split at ah
     .rename_i db;simp only[aE]at ah;subst ah;obtain⟨g,b,cap,rfl,cQ⟩:=GH U ad;have bU:=(aA.1 ad).1;obtain⟨inf,h_⟩:∃i,E.P.info? e=some i:=by
       simp only[de,fm,aJ,bu]at U;obtain⟨A,l,cap,_,_,_,_,bO⟩:=U;rcases bO with bO|⟨_,_,k,_,_,_,jJ,aj,_⟩
       .subst bO;simp at ad
       .exact sy (by rw[<-db,aj c (aM ad)];exact jJ)
      refine⟨_,Cm gq h_ oN (by omega) w,?_⟩;rw[<-db];exact jY (d:=.ref _) cQ
     .cases ah
   |alias s ps=>
    obtain⟨y,aw,Er,rfl⟩:=U;have zd:=h.me aw Er;have EI:=h.k5 aw;simp only[h.b6,aw,aQ]at ah
    split at ah
    .rename_i es he;simp only[aE]at he;rcases om EI he with⟨g,cap,el,sp,ts,rfl,rfl⟩|⟨rfl,rfl⟩
     .simp only[ba]at ah;cases ad:ts[Bn.toNat]? with
      |none=>simp[ad]at ah
      |some c=>
       simp only[ad,aQ,bL]at ah
       split at ah
       .rename_i db;simp only[aE]at ah;subst ah;obtain⟨⟨k,jJ,aj,_⟩,_⟩:=zd;have yQ:=aj c (aM ad);have bU:=(aA.1 ad).1;obtain⟨inf,h_⟩:=sy (P:=E.P) (t:=e) (by omega);refine⟨_,Cm gq h_ oN (by omega) w,?_⟩;refine jY (d:=.place _ _ _ _) ⟨_,aw,Er,.inl ⟨g,cap,el,sp,ts,k,rfl,by omega,aj,?_⟩⟩;rw[<-db,yQ];simp
       .cases ah
     .simp at ah
    .rename_i es he;simp only[aE]at he;have aT:=zZ he;rw[aT]at zd;have hr:=tZ zd (by simp);cases ad:es[Bn.toNat]? with
     |none=>simp[ad]at ah
     |some c=>
      simp only[ad]at ah
      split at ah
      .rename_i db;simp only[aE]at ah;subst ah;obtain⟨g,b,cap,av,cQ⟩:=GH hr ad;have bU:=(aA.1 ad).1;obtain⟨inf,h_⟩:∃i,E.P.info? e=some i:=by
        simp only[bu]at hr;obtain⟨A,l,cap,_,_,_,_,bO⟩:=hr;rcases bO with bO|⟨_,_,k,_,_,_,jJ,aj,_⟩
        .subst bO;simp at ad
        .exact sy (by rw[<-db,aj c (aM ad)];exact jJ)
       rw[av];refine⟨_,Cm gq h_ oN (by omega) w,?_⟩;rw[<-db];exact jY (d:=.ref _) cQ
      .cases ah
    .cases ah
   |sub s ps off len=>
    obtain⟨y,aw,Er,cR⟩:=U;have zd:=h.me aw Er;have EI:=h.k5 aw;simp only[h.b6,aw,aQ]at ah
    split at ah
    .rename_i rT
     split at ah
     .rename_i es he;simp only[aE]at he;rcases om EI he with⟨g,cap,el,sp,ts,rfl,rfl⟩|⟨rfl,rfl⟩
      .simp only[ba]at ah;cases ad:ts[off+Bn.toNat]? with
       |none=>simp[ad]at ah
       |some c=>
        simp only[ad,aQ,bL]at ah
        split at ah
        .rename_i db;simp only[aE]at ah;subst ah;obtain⟨⟨k,jJ,aj,_⟩,_⟩:=zd;have yQ:=aj c (aM ad);have bU:=(aA.1 ad).1;obtain⟨inf,h_⟩:=sy (P:=E.P) (t:=e) (by omega);obtain⟨A,m,c',k',es',A',I,aa,aB,aW,bO,c7,rfl,dL⟩:=cR;simp only[T.val,Value.slice.injEq]at I;obtain⟨rfl,rfl,rfl⟩:=I;have iU:k'=k:=by
          rcases aa with aa|aa
          .simp only[T.erase,D.own.injEq]at aa;subst aa;have:=aW (c.map T.erase) (by rw[T.lU];exact List.mem_map.2 ⟨c,aM ad,rfl⟩);simp at this;omega
          .simp [T.erase]at aa
         subst iU;rcases dL with dL|dL
         .subst dL;simp only[aQ,Addr.add_plain,Nat.zero_add];refine⟨_,Cm gq h_ oN (by omega) w,?_⟩;refine jY (d:=.place _ _ _ _) ⟨_,aw,Er,.inl ⟨g,cap,el,sp,ts,k',rfl,by omega,aj,?_⟩⟩;rw[<-db.1,yQ,Nat.add_mul];simp
         .omega
        .cases ah
      .simp at ah
     .rename_i es he;simp only[aE]at he;have aT:=zZ he;rw[aT]at zd cR;have hr:=tZ zd (by simp);have n9:=Dg hr cR;cases ad:es[off+Bn.toNat]? with
      |none=>simp[ad]at ah
      |some c=>
       simp only[ad]at ah
       split at ah
       .rename_i db;simp only[aE]at ah;subst ah;have u3:((es.drop off).take len)[Bn.toNat]?=some c:=by
         rw[a6,if_pos rT,bo];exact ad
        obtain⟨g,b,cap,av,cQ⟩:=GH n9 u3;have bU:=(aA.1 u3).1;obtain⟨inf,h_⟩:∃i,E.P.info? e=some i:=by
         simp only[bu]at hr;obtain⟨A,l,cap,_,_,_,_,bO⟩:=hr;rcases bO with bO|⟨_,_,k,_,_,_,jJ,aj,_⟩
         .subst bO;simp at ad
         .exact sy (by rw[<-db.1,aj c (aM ad)];exact jJ)
        rw[av];refine⟨_,Cm gq h_ oN (by omega) w,?_⟩;rw[<-db.1];exact jY (d:=.ref _) cQ
       .cases ah
     .cases ah
    .cases ah
   |_=>simp at ah
  |none=>
   simp only[iE]at ah;cases Nt:yv E.P t with
   |none=>simp[Nt]at ah
   |some q=>
    obtain⟨l,e⟩:=q;have gq:=QP Nt;simp only[Nt]at ah
    split at ah
    .rename_i rT
     split at ah
     .cases ah
     rename_i fO;obtain⟨inf,h_⟩:=sy (P:=E.P) (t:=e) (by omega);cases af:gB F x with
     |none=>simp[af]at ah
     |some p=>
      obtain⟨g,b,rfl,b9,k2⟩:=RY (GA h U af);refine⟨_,P_ gq h_ oN (by omega) w,?_⟩;cases p with
      |nj cs=>simp only[af,aE]at ah;subst ah;exact jY (d:=.ref _) (b9 cs rfl _)
      |loc s ps i o=>simp only[af,aE]at ah;subst ah;exact jY (d:=.place _ _ _ _) (k2 s ps i o rfl _)
    .cases ah
end
end Go.aS
