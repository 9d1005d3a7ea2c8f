/- An interpreter of function bodies, sound. No conditions. -/
import Derived.Test.YtmiedlcblpiemaaGreatDoorOwn5
set_option linter.all false
open Option renaming map_eq_some_iff->zA
open Bool renaming false_eq_true->zB
open List renaming range->zC
namespace Go.Own
open D
abbrev Alp:=Nat×List D
def Be7(E:Env)(F:Fr)(f:Nat)(c:Operand)(args:List Arg):Option (List D):=
 match passMoves E f 0 F args with
 |none=>none
 |some (ms,F1)=>match lentFrom E f F1 c 0 args with
  |none=>none
  |some l=>match holeC F1 l with
   |none=>none
   |some (ld,F2)=>passRest E f F1 F2 c ld 0 args ms
def opQ(E:Env)(F:Fr)(o:Oper):List Alp:=match o.op with
 | .call c=>match c.callee with
  | .value x=>match opd E F x with
   |some (fn g caps)=>((Be7 E F g x (argsOf c.args.toList caps.length)).map fun ds=>(g,ds)).toList
   |_=>[]
  |_=>[]
 |_=>[]
def valQ(E:Env)(F:Fr)(o:Oper):List Alp:=match o.op with
 | .call c=>match c.callee with
  | .value x=>match opd E F x with
   |some (fn g caps)=>((passRest E g F F x none 0 (argsOf c.args.toList caps.length) ((argsOf c.args.toList caps.length).map fun _=>none)).map fun ds=>(g,ds)).toList
   |_=>[]
  |_=>[]
 |_=>[]
def opsQ(E:Env)(f:Nat)(V:List Nat)(call:Ab0)(ops:Array Oper):List Nat->Fr->List Alp
 |[],_=>[]
 |i::r,F=>match ops[i]? with
  |none=>opsQ E f V call ops r F
  |some o=>match wantedD ops F o with
   |some true=>opQ E F o++(match opC E f V call F o with
    |some F'=>opsQ E f V call ops r F'
    |none=>[])
   |some false=>opsQ E f V call ops r (fin F o.dst (tup []))
   |none=>[]
def Anz(E:Env)(f:Nat)(V:List Nat)(call:Ab0)(ops:Array Oper):List Nat->Blk->Fr->List Alp
 |[],_,_=>[]
 |i::r,blk,F=>match ops[i]? with
  |none=>[]
  |some o=>if Ac4 ops i then match wantedD ops F o with
    |some true=>opQ E F o++(match opC E f V call F o with
     |some F'=>Anz E f V call ops r [] F'
     |none=>[])
    |some false=>Anz E f V call ops r [] (fin F o.dst (tup []))
    |none=>[]
   else valQ E (Abe (Aad ops blk i) F) o++(match Ab1 E f call ops (Abe (Aad ops blk i) F) o with
    |some d=>Anz E f V call ops r ((i,dstL o,none)::blk) (set0 F o.dst d)
    |none=>opQ E (Abe (Aad ops blk i) F) o++match effS E f V call ops blk i F o with
     |some b=>Anz E f V call ops r b.1 b.2
     |none=>[])
def regQ(E:Env)(f:Nat)(V:List Nat)(call:Ab0)(ops:Array Oper)(draw:Bool)(F:Fr):List Alp:=
 if draw then Anz E f V call ops (zC ops.size) [] (Adn F ops.toList)else opsQ E f V call ops (zC ops.size) F
def Agl(c c':Ab0)(l:List Alp):Prop:=∀q∈l,∀x,c q.1 q.2=some x->c' q.1 q.2=some x
theorem Agl.left{c c':Ab0}{l m:List Alp}(h:Agl c c' (l++m)):Agl c c' l:=fun q hq=>h q (List.mem_append_left _ hq)
theorem Agl.right{c c':Ab0}{l m:List Alp}(h:Agl c c' (l++m)):Agl c c' m:=fun q hq=>h q (List.mem_append_right _ hq)
theorem Bji{E:Env}{c c':Ab0}{F:Fr}{f:Nat}{x:Operand}{bs:List Arg}{r:D×Fr}(h:∀ds,Be7 E F f x bs=some ds->∀y,c f ds=some y->c' f ds=some y)(hc:callC E c F f x bs=some r):callC E c' F f x bs=some r:=by
 unfold callC at hc⊢;unfold Be7 at h
 split at hc
 .cases hc
 .rename_i ms F1 h1;simp only[h1]at h
  split at hc
  .cases hc
  .rename_i l h2;simp only[h2]at h
   split at hc
   .cases hc
   .rename_i ld F2 h3;simp only[h3]at h
    split at hc
    .cases hc
    .rename_i ds h4
     split at hc
     .cases hc
     .rename_i r outs hcl;simp only[h ds h4 _ hcl];exact hc
theorem Be4{E:Env}{c c':Ab0}{f:Nat}{V:List Nat}{F F':Fr}{o:Oper}(h:Agl c c' (opQ E F o))(hc:opC E f V c F o=some F'):opC E f V c' F o=some F':=by
 unfold opC at hc⊢;unfold opQ at h;cases hq:o.op with
 |call cl=>
  rw[hq]at hc h;simp only at hc h⊢;cases hcl:cl.callee with
  |value x=>
   rw[hcl]at hc h;simp only at hc h⊢;cases ho:opd E F x with
   |none=>simp[ho]at hc
   |some d=>
    cases d with
    |fn g caps=>
     simp only[ho,Option.bind_eq_some_iff]at hc h⊢;obtain⟨r,hr,hc⟩:=hc;refine⟨r,Bji (fun ds hds y hy=>?_) hr,hc⟩;rw[hds]at h;exact h (g,ds) (by simp) y hy
    |_=>simp[ho]at hc
  |builtin b=>rw[hcl]at hc;cases b<;>exact hc
  |invoke a b=>rw[hcl]at hc;exact hc
 |makeFunc fn _ _=>rw[hq]at hc;cases fn<;>exact hc
 |makeMap _ r=>rw[hq]at hc;cases r<;>exact hc
 |slice _ _ _ _ mx=>rw[hq]at hc;cases mx<;>exact hc
 |extract x _=>rw[hq]at hc;cases x<;>exact hc
 |move x=>rw[hq]at hc;cases x<;>exact hc
 |_=>rw[hq]at hc;exact hc
theorem Boj{E:Env}{c c':Ab0}{f:Nat}{F:Fr}{o:Oper}{d:D}(h:Agl c c' (valQ E F o))(hc:valC E f c F o=some d):valC E f c' F o=some d:=by
 unfold valC at hc⊢;unfold valQ at h;cases hq:o.op with
 |call cl=>
  rw[hq]at hc h;simp only at hc h⊢;cases hcl:cl.callee with
  |value x=>
   rw[hcl]at hc h;simp only at hc h⊢;cases ho:opd E F x with
   |none=>simp[ho]at hc
   |some d=>
    cases d with
    |fn g caps=>
     simp only[ho]at hc h⊢
     split at hc
     .rename_i hs;rw[if_pos hs];cases hp:passRest E g F F x none 0 (argsOf cl.args.toList caps.length) ((argsOf cl.args.toList caps.length).map fun _=>none)with
      |none=>rw[hp]at hc;cases hc
      |some ds=>
       rw[hp]at hc h;cases hcd:c g ds with
       |none=>simp[hcd]at hc
       |some x=>
        simp only[hcd]at hc;simp only[h (g,ds) (by simp) x hcd];exact hc
     .cases hc
    |_=>simp[ho]at hc
  |builtin b=>rw[hcl]at hc;cases b<;>exact hc
  |invoke a b=>rw[hcl]at hc;exact hc
 |makeFunc fn _ _=>rw[hq]at hc;cases fn<;>exact hc
 |makeMap _ r=>rw[hq]at hc;cases r<;>exact hc
 |slice _ _ _ _ mx=>rw[hq]at hc;cases mx<;>exact hc
 |extract x _=>rw[hq]at hc;cases x<;>exact hc
 |move x=>rw[hq]at hc;cases x<;>exact hc
 |_=>rw[hq]at hc;exact hc
theorem Blm{E:Env}{c c':Ab0}{f:Nat}{ops:Array Oper}{F:Fr}{o:Oper}{d:D}(h:Agl c c' (valQ E F o))(hc:Ab1 E f c ops F o=some d):Ab1 E f c' ops F o=some d:=by
 unfold Ab1 at hc⊢
 split at hc
 .exact Boj h hc
 .exact hc
 .cases hc
theorem Auo{E:Env}{c c':Ab0}{f:Nat}{V:List Nat}{ops:Array Oper}:∀{l:List Nat}{F F':Fr},Agl c c' (opsQ E f V c ops l F)->opsC E f V c ops l F=some F'->opsC E f V c' ops l F=some F'
 |[],_,_,_,hc=>hc
 |i::l,F,F',h,hc=>by
  simp only[opsC]at hc⊢;simp only[opsQ]at h;cases ho:ops[i]? with
  |none=>simp only[ho]at hc h⊢;exact Auo h hc
  |some o=>
   simp only[ho]at hc h⊢;cases hw:wantedD ops F o with
   |none=>simp[hw]at hc
   |some b=>
    cases b with
    |true=>
     simp only[hw]at hc h⊢;cases h1:opC E f V c F o with
     |none=>simp[h1]at hc
     |some F1=>
      simp only[h1]at hc h;simp only[Be4 h.left h1];exact Auo h.right hc
    |false=>simp only[hw]at hc h⊢;exact Auo h hc
theorem Bm6{E:Env}{c c':Ab0}{f:Nat}{V:List Nat}{ops:Array Oper}{blk:Blk}{i:Nat}{F:Fr}{o:Oper}{b:Blk×Fr}(hl:Agl c c' (opQ E (Abe (Aad ops blk i) F) o))(h:effS E f V c ops blk i F o=some b):effS E f V c' ops blk i F o=some b:=by
 have hC:∀{r},effC E f V c (Abe (Aad ops blk i) F) o=some r->effC E f V c' (Abe (Aad ops blk i) F) o=some r:=fun {r} h=>by
  unfold effC at h⊢
  split at h
  .exact h
  split at h
  .exact h
  split at h
  .rename_i z F' hz ho;simp only[hz,Be4 hl ho];exact h
  .cases h
 unfold effS at h⊢
 split at h
 .exact h
 split at h
 .split at h
  .rename_i r hr;simp only[hC hr];exact h
  .cases h
 .cases h
theorem Amz{E:Env}{c c':Ab0}{f:Nat}{V:List Nat}{ops:Array Oper}:∀{l:List Nat}{blk:Blk}{F F':Fr},Agl c c' (Anz E f V c ops l blk F)->Ad9 E f V c ops l blk F=some F'->Ad9 E f V c' ops l blk F=some F'
 |[],_,_,_,_,hc=>hc
 |i::l,blk,F,F',h,hc=>by
  simp only[Ad9]at hc⊢;simp only[Anz]at h;cases ho:ops[i]? with
  |none=>simp[ho]at hc
  |some o=>
   simp only[ho]at hc h⊢;by_cases ha:Ac4 ops i=true
   .simp only[if_pos ha]at hc h⊢;cases hw:wantedD ops F o with
    |none=>simp[hw]at hc
    |some b=>
     cases b with
     |true=>
      simp only[hw]at hc h⊢;cases h1:opC E f V c F o with
      |none=>simp[h1]at hc
      |some F1=>
       simp only[h1]at hc h;simp only[Be4 h.left h1];exact Amz h.right hc
     |false=>simp only[hw]at hc h⊢;exact Amz h hc
   .simp only[if_neg ha]at hc h⊢;cases hp:Ab1 E f c ops (Abe (Aad ops blk i) F) o with
    |none=>
     simp only[hp]at hc h
     split at hc
     .rename_i b hb;simp only[hb]at h;rw[Aq8 c' hb hp];simp only[Bm6 h.right.left hb];exact Amz h.right.right hc
     .cases hc
    |some d=>
     simp only[hp]at hc h;simp only[Blm h.left hp]
     split at hc
     .rename_i hs;rw[if_pos hs];exact Amz h.right hc
     .cases hc
theorem Bge{E:Env}{c c':Ab0}{f:Nat}{V:List Nat}{ops:Array Oper}{draw:Bool}{F F':Fr}(h:Agl c c' (regQ E f V c ops draw F))(hc:regC E f V c ops draw F=some F'):regC E f V c' ops draw F=some F':=by
 unfold regC at hc⊢;unfold regQ at h
 split at hc
 .rename_i hd;rw[if_pos hd]at h⊢
  split at hc
  .rename_i hb;rw[if_pos hb];simp only[zA]at hc⊢;obtain⟨F1,h1,h2⟩:=hc;exact⟨F1,Amz h h1,h2⟩
  .cases hc
 .rename_i hd;rw[if_neg hd]at h⊢;simp only[zA]at hc⊢;obtain⟨F1,h1,h2⟩:=hc;exact⟨F1,Auo h h1,h2⟩
end Go.Own
namespace Go.Own
open D
def Runs(E:Env)(f:Nat)(V:List Nat)(cd:Code)(F:Fr)(x:Ex×Fr):Prop:=∃N,∀n,N<=n->Aas E f V (Abu E n) n cd F=some x
def To(E:Env)(f:Nat)(V:List Nat)(cd:Code)(F:Fr)(Q:Ex->Fr->Prop):Prop:=∃e F',Runs E f V cd F (e,F')/\Q e F'
def Ada:Ab0:=fun _ _=>none
section
variable{E:Env}{f:Nat}{V:List Nat}{F F':Fr}{Q:Ex->Fr->Prop}
theorem To.skip(k:Q .normal F):To E f V .skip F Q:=⟨_,_,⟨0,fun _ _=>rfl⟩,k⟩
theorem To.exit{id:Nat}(k:Q (.exit id) (trim E f V 3 id F)):To E f V (.exit id) F Q:=⟨_,_,⟨0,fun _ _=>rfl⟩,k⟩
theorem To.ret(k:Q .ret F):To E f V .ret F Q:=⟨_,_,⟨0,fun _ _=>rfl⟩,k⟩
def Av2(E:Env)(f:Nat)(V:List Nat)(b:Code)(Q:Ex->Fr->Prop):Ex->Fr->Prop
 | .normal,F=>To E f V b F Q
 |e,F=>Q e F
theorem To.seq{a b:Code}(h:To E f V a F (Av2 E f V b Q)):To E f V (.seq a b) F Q:=by
 obtain⟨e,F1,⟨N,hN⟩,h2⟩:=h;cases e with
 |normal=>
  obtain⟨e2,F2,⟨K,hK⟩,k2⟩:=h2;exact⟨e2,F2,⟨max N K,fun n hn=>by simp only[Aas,hN n (by omega)];exact hK n (by omega)⟩,k2⟩
 |exit i=>exact⟨_,_,⟨N,fun n hn=>by simp only[Aas,hN n hn]⟩,h2⟩
 |ret=>exact⟨_,_,⟨N,fun n hn=>by simp only[Aas,hN n hn]⟩,h2⟩
theorem To.cond{y:Operand}{a b:Code}{t:Bool}(hy:opd E F y=some (.lit (.bool t)))(h1:t=true->To E f V a (trim E f V 1 (Ajl y) F) Q)(h2:t=false->To E f V b (trim E f V 2 (Ajl y) F) Q):To E f V (.cond y a b) F Q:=by
 cases t with
 |true=>obtain⟨e,F1,⟨N,hN⟩,k2⟩:=h1 rfl;exact⟨e,F1,⟨N,fun n hn=>by simp only[Aas,hy,if_true];exact hN n hn⟩,k2⟩
 |false=>obtain⟨e,F1,⟨N,hN⟩,k2⟩:=h2 rfl;exact⟨e,F1,⟨N,fun n hn=>by simp only[Aas,hy,zB,if_false];exact hN n hn⟩,k2⟩
def Aqy(id:Nat)(Q:Ex->Fr->Prop):Ex->Fr->Prop
 | .exit i,F=>if i=id then Q .normal F else Q (.exit i) F
 |e,F=>Q e F
theorem To.block{id:Nat}{b:Code}(h:To E f V b F (Aqy id Q)):To E f V (.block id b) F Q:=by
 obtain⟨e,F1,⟨N,hN⟩,h2⟩:=h;cases e with
 |normal=>exact⟨_,F1,⟨N,fun n hn=>by simp only[Aas,hN n hn]⟩,h2⟩
 |ret=>exact⟨_,F1,⟨N,fun n hn=>by simp only[Aas,hN n hn]⟩,h2⟩
 |exit i=>
  simp only[Aqy]at h2;by_cases hi:i=id
  .rw [if_pos hi]at h2;exact⟨_,F1,⟨N,fun n hn=>by simp only[Aas,hN n hn,if_pos hi]⟩,h2⟩
  .rw [if_neg hi]at h2;exact⟨_,F1,⟨N,fun n hn=>by simp only[Aas,hN n hn,if_neg hi]⟩,h2⟩
theorem To.loop{b:Code}(h:To E f V b F (Av2 E f V (.loop b) Q)):To E f V (.loop b) F Q:=by
 obtain⟨e,F1,⟨N,hN⟩,h2⟩:=h;cases e with
 |normal=>
  obtain⟨e2,F2,⟨K,hK⟩,k2⟩:=h2;refine⟨e2,F2,⟨max N K+1,fun n hn=>?_⟩,k2⟩;obtain⟨m,rfl⟩:∃m,n=m+1:=⟨n-1,by omega⟩
  have hm:=hK m (by omega);simp only[Aas]at hm⊢;simp only[iter,hN (m+1) (by omega)];exact Avr (fun F y hy=>Ag6 (Asg (Nat.le_succ m)) (Nat.le_succ m) hy) (Nat.le_refl m) hm
 |exit i=>
  refine⟨_,_,⟨N+1,fun n hn=>?_⟩,h2⟩;obtain⟨m,rfl⟩:∃m,n=m+1:=⟨n-1,by omega⟩
  simp only[Aas,iter,hN (m+1) (by omega)]
 |ret=>
  refine⟨_,_,⟨N+1,fun n hn=>?_⟩,h2⟩;obtain⟨m,rfl⟩:∃m,n=m+1:=⟨n-1,by omega⟩
  simp only[Aas,iter,hN (m+1) (by omega)]
end
def Blv(E:Env)(f:Nat)(fd:Func)(n:Nat)(r:D)(outs:List D):Ex->Fr->Prop
 | .exit _,_=>False
 |_,F=>Aej E f fd n F=some (r,outs)
theorem Ret.of_to{E:Env}{f:Nat}{fd:Func}{cd:Code}{ds:List D}{r:D}{outs:List D}{F0:Fr}(hp:E.prim f=none)(hf:E.P.funcs[f]?=some fd)(hb:fd.body=some cd)(hl:ds.length<=fd.ntmps/\fd.ntmps<1000000)
  (h0:norm (E.vars f++Aci E f 0 ds.length) (Aea E f 0 ds)=F0) (hr:To E f (E.vars f++Aci E f 0 ds.length) cd F0 (Blv E f fd ds.length r outs)):Ret E f ds r outs:=by
 obtain⟨e,F,⟨N,hN⟩,h2⟩:=hr;subst h0;refine Ret.of (n:=N+1) ?_;simp only[Abu,hp,hf,hb,if_pos hl,hN N (Nat.le_refl N)];cases e with
 |exit i=>exact h2.elim
 |normal=>exact h2
 |ret=>exact h2
end Go.Own
namespace Go.Own
open D
inductive Kt|seq (b:Code)|block (id:Nat)|loop (b:Code)
def dn:Code->List Kt->Code×List Kt
 | .seq a b,ks=>dn a (.seq b::ks)
 | .block id b,ks=>dn b (.block id::ks)
 |c,ks=>(c,ks)
def go:Code->List Nat->List Kt->Code×List Kt
 | .seq a b,i::p,ks=>match i with
  |0=>go a p (.seq b::ks)
  |_=>go b p ks
 | .cond _ a b,i::p,ks=>match i with
  |0=>go a p ks
  |_=>go b p ks
 | .block id b,_::p,ks=>go b p (.block id::ks)
 | .loop b,_::p,ks=>go b p (.loop b::ks)
 |c,_,ks=>(c,ks)
def Afj:List Kt->Option (Code×List Kt)
 |[]=>none
 | .seq b::ks=>some (dn b ks)
 | .block _::ks=>Afj ks
 | .loop b::ks=>some (.loop b,ks)
def Ak8(id:Nat):List Kt->Option (List Kt)
 |[]=>none
 | .block i::ks=>if id=i then some ks else Ak8 id ks
 | .seq _::ks=>Ak8 id ks
 | .loop _::ks=>Ak8 id ks
section
variable{E:Env}{f:Nat}{V:List Nat}{F F':Fr}{Q:Ex->Fr->Prop}
def kTo(E:Env)(f:Nat)(V:List Nat):List Kt->(Ex->Fr->Prop)->Ex->Fr->Prop
 |[],Q=>Q
 | .seq b::ks,Q=>Av2 E f V b (kTo E f V ks Q)
 | .block id::ks,Q=>Aqy id (kTo E f V ks Q)
 | .loop b::ks,Q=>Av2 E f V (.loop b) (kTo E f V ks Q)
def AtC(E:Env)(f:Nat)(V:List Nat)(c:Code×List Kt)(F:Fr)(Q:Ex->Fr->Prop):Prop:=To E f V c.1 F (kTo E f V c.2 Q)
theorem Akp:∀(c:Code)(ks:List Kt){F:Fr},AtC E f V (dn c ks) F Q->AtC E f V (c,ks) F Q
 | .seq a b,ks,_,h=>To.seq (Akp a (.seq b::ks) h)
 | .block id b,ks,_,h=>To.block (Akp b (.block id::ks) h)
 | .skip,_,_,h=>h
 | .region ..,_,_,h=>h
 | .cond ..,_,_,h=>h
 | .loop _,_,_,h=>h
 | .exit _,_,_,h=>h
 | .ret,_,_,h=>h
 | .rangeFunc ..,_,_,h=>h
 | .scope _,_,_,h=>h
 | .label _,_,_,h=>h
 | .goto _,_,_,h=>h
 | .refuse _,_,_,h=>h
theorem Ao5:∀{ks:List Kt}{c:Code×List Kt}{F:Fr},Afj ks=some c->AtC E f V c F Q->kTo E f V ks Q .normal F
 |[],c,_,h,_=>by simp[Afj]at h
 | .seq b::ks,c,F,h,k=>by
  simp only[Afj,zJ]at h;subst h;exact Akp b ks k
 | .block id::ks,c,F,h,k=>Ao5 (ks:=ks) h k
 | .loop b::ks,c,F,h,k=>by
  simp only[Afj,zJ]at h;subst h;exact k
theorem Al2{id:Nat}:∀{ks ks':List Kt}{F:Fr},Ak8 id ks=some ks'->kTo E f V ks' Q .normal F->kTo E f V ks Q (.exit id) F
 |[],_,_,h,_=>by simp[Ak8]at h
 | .seq _::ks,ks',F,h,k=>Al2 (ks:=ks) h k
 | .loop _::ks,ks',F,h,k=>Al2 (ks:=ks) h k
 | .block i::ks,ks',F,h,k=>by
  simp only[Ak8]at h;simp only[kTo,Aqy]
  split at h
  .rename_i hi;simp only[zJ]at h;subst h;rw[if_pos hi];exact k
  .rename_i hi;rw[if_neg hi];exact Al2 h k
theorem Ar6:∀{ks:List Kt}{F:Fr},Q .ret F->kTo E f V ks Q .ret F
 |[],_,k=>k
 | .seq _::ks,_,k=>Ar6 (ks:=ks) k
 | .loop _::ks,_,k=>Ar6 (ks:=ks) k
 | .block _::ks,_,k=>Ar6 (ks:=ks) k
theorem Ar5:∀{ks:List Kt}{F:Fr},Afj ks=none->Q .normal F->kTo E f V ks Q .normal F
 |[],_,_,k=>k
 | .seq _::ks,_,h,_=>by simp[Afj]at h
 | .loop _::ks,_,h,_=>by simp[Afj]at h
 | .block _::ks,_,h,k=>Ar5 (ks:=ks) h k
abbrev St:=Blk×Fr
def frd(draw:Bool)(ops:Array Oper)(i:Nat)(s:St):Fr:=bif draw&&!Ac4 ops i then Abe (Aad ops s.1 i) s.2 else s.2
def pts(draw:Bool)(ops:Array Oper)(i:Nat)(s:St)(dst:Option Nat)(d:D):St:=
 bif draw then(bif Ac4 ops i then([],fin s.2 dst d)else((i,dst.toList,none)::s.1,set0 s.2 dst d))else(s.1,fin s.2 dst d)
def Ahk(E:Env)(f:Nat)(V:List Nat)(call:Ab0)(ops:Array Oper)(draw:Bool)(i:Nat)(s:St):Option St:=match ops[i]? with
 |none=>none
 |some o=>
  bif draw then
   bif Ac4 ops i then match wantedD ops s.2 o with
    |some true=>(opC E f V call s.2 o).map fun F'=>([],F')
    |some false=>some ([],fin s.2 o.dst (tup []))
    |none=>none
   else match Ab1 E f call ops (Abe (Aad ops s.1 i) s.2) o with
    |some d=>bif Ac3 ops (Abe (Aad ops s.1 i) s.2) o&&Aee s.2 o&&Ah9 s.1 o&&Af0 ops s.1 i d then some ((i,o.dst.toList,none)::s.1,set0 s.2 o.dst d)else none
    |none=>effS E f V call ops s.1 i s.2 o
  else match wantedD ops s.2 o with
   |some true=>(opC E f V call s.2 o).map fun F'=>(s.1,F')
   |some false=>some (s.1,fin s.2 o.dst (tup []))
   |none=>none
def Amc(E:Env)(f:Nat)(V:List Nat)(call:Ab0)(ops:Array Oper)(draw:Bool)(l:List Nat)(s:St):Option Fr:=
 if draw then Ad9 E f V call ops l s.1 s.2 else opsC E f V call ops l s.2
theorem Bgf{call:Ab0}{ops:Array Oper}{draw:Bool}{i:Nat}{l:List Nat}{s s':St}(h:Ahk E f V call ops draw i s=some s'):Amc E f V call ops draw (i::l) s=Amc E f V call ops draw l s':=by
 obtain⟨blk,F⟩:=s;unfold Ahk at h;cases ho:ops[i]? with
 |none=>simp[ho]at h
 |some o=>
  simp only[ho]at h;cases draw with
  |true=>
   simp only[cond_true]at h;simp only[Amc,if_true,Ad9,ho];cases ha:Ac4 ops i with
   |true=>
    simp only[ha,cond_true]at h;simp only[if_true];cases hw:wantedD ops F o with
    |none=>simp[hw]at h
    |some b=>
     cases b with
     |true=>
      simp only[hw,zA]at h;obtain⟨F',h1,rfl⟩:=h;simp only[h1]
     |false=>
      simp only[hw,zJ]at h;subst h;rfl
   |false=>
    simp only[ha,cond_false]at h;simp only[zB,if_false]
    split at h
    .rename_i d hp;cases hc:(Ac3 ops (Abe (Aad ops blk i) F) o&&Aee F o&&Ah9 blk o&&Af0 ops blk i d)with
     |false=>rw[hc]at h;simp at h
     |true=>
      rw[hc]at h;simp only[cond_true,zJ]at h;subst h;simp only[hp,hc,if_true];rfl
    .rename_i hp;simp only[hp,h]
  |false=>
   simp only[cond_false]at h;simp only[Amc,zB,if_false,opsC,ho];cases hw:wantedD ops F o with
   |none=>simp[hw]at h
   |some b=>
    cases b with
    |true=>
     simp only[hw,zA]at h;obtain⟨F',h1,rfl⟩:=h;simp only[h1]
    |false=>
     simp only[hw,zJ]at h;subst h;rfl
theorem At0{c c':Ab0}(h:Aef c c'){ops:Array Oper}{draw:Bool}{i:Nat}{s s':St}(hc:Ahk E f V c ops draw i s=some s'):Ahk E f V c' ops draw i s=some s':=by
 unfold Ahk at hc⊢
 split at hc
 .cases hc
 .rename_i o ho;cases draw with
  |true=>
   simp only[cond_true]at hc⊢;cases ha:Ac4 ops i with
   |true=>
    simp only[ha,cond_true]at hc⊢
    split at hc
    .simp only[zA]at hc⊢;obtain⟨F',h1,h2⟩:=hc;exact⟨F',An7 h h1,h2⟩
    .exact hc
    .cases hc
   |false=>
    simp only[ha,cond_false]at hc⊢
    split at hc
    .rename_i d hp;rw[Aoh h hp];exact hc
    .rename_i hp;rw[Aq8 c' hc hp];exact Bce h hc
  |false=>
   simp only[cond_false]at hc⊢
   split at hc
   .simp only[zA]at hc⊢;obtain⟨F',h1,h2⟩:=hc;exact⟨F',An7 h h1,h2⟩
   .exact hc
   .cases hc
def Pt(E:Env)(f:Nat)(V:List Nat)(body:Code)(p:List Nat)(F:Fr)(Q:Ex->Fr->Prop):Prop:=AtC E f V (go body p []) F Q
variable{body:Code}{p p':List Nat}
variable{j:Nat}{s s':St}
theorem Bde{n j:Nat}(h:j<n):(zC n).drop j=j::(zC n).drop (j+1):=by
 rw[List.drop_eq_getElem_cons (by simpa using h)];simp
theorem Am9{c:Ab0}:Aef Ada c:=fun f ds x h=>by cases h
end
end Go.Own
