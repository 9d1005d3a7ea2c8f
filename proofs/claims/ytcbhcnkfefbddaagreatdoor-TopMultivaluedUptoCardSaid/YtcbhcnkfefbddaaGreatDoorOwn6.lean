/- An interpreter of function bodies, sound. No conditions. -/
import Derived.Test.YtcbhcnkfefbddaaGreatDoorOwn5
set_option linter.all false
open Option renaming map_eq_some_iff->aA
open Bool renaming false_eq_true->aM
open List renaming range->aQ
namespace Go.aS
open D
abbrev wy:=Nat×List D
def Mn(E:Env)(F:Fr)(f:Nat)(c:Operand)(args:List Arg):Option (List D):=
 match kE E f 0 F args with
 |none=>none
 |some (ms,aX)=>match hk E f aX c 0 args with
  |none=>none
  |some l=>match pI aX l with
   |none=>none
   |some (k3,bN)=>gu E f aX bN c k3 0 args ms
def BC(E:Env)(F:Fr)(o:Oper):List wy:=match o.op with
 | .call c=>match c.callee with
  | .value x=>match aZ E F x with
   |some (fn g ey)=>((Mn E F g x (gF c.args.toList ey.length)).map λaz=>(g,az)).toList
   |_=>[]
  |_=>[]
 |_=>[]
def Js(E:Env)(F:Fr)(o:Oper):List wy:=match o.op with
 | .call c=>match c.callee with
  | .value x=>match aZ E F x with
   |some (fn g ey)=>((gu E g F F x none 0 (gF c.args.toList ey.length) ((gF c.args.toList ey.length).map λ_=>none)).map λaz=>(g,az)).toList
   |_=>[]
  |_=>[]
 |_=>[]
def BD(E:Env)(f:Nat)(V:List Nat)(call:fL)(ops:Array Oper):List Nat->Fr->List wy
 |[],_=>[]
 |i::r,F=>match ops[i]? with
  |none=>BD E f V call ops r F
  |some o=>match fV ops F o with
   |some true=>BC E F o++(match cV E f V call F o with
    |some aD=>BD E f V call ops r aD
    |none=>[])
   |some false=>BD E f V call ops r (fin F o.dst (bt []))
   |none=>[]
def yi(E:Env)(f:Nat)(V:List Nat)(call:fL)(ops:Array Oper):List Nat->g6->Fr->List wy
 |[],_,_=>[]
 |i::r,bd,F=>match ops[i]? with
  |none=>[]
  |some o=>if la ops i then match fV ops F o with
    |some true=>BC E F o++(match cV E f V call F o with
     |some aD=>yi E f V call ops r [] aD
     |none=>[])
    |some false=>yi E f V call ops r [] (fin F o.dst (bt []))
    |none=>[]
   else Js E (gm (fD ops bd i) F) o++(match e5 E f call ops (gm (fD ops bd i) F) o with
    |some d=>yi E f V call ops r ((i,yz o,none)::bd) (lF F o.dst d)
    |none=>BC E (gm (fD ops bd i) F) o++match oI E f V call ops bd i F o with
     |some b=>yi E f V call ops r b.1 b.2
     |none=>[])
def Jg(E:Env)(f:Nat)(V:List Nat)(call:fL)(ops:Array Oper)(draw:Bool)(F:Fr):List wy:=
 if draw then yi E f V call ops (aQ ops.size) [] (mn F ops.toList)else BD E f V call ops (aQ ops.size) F
def pd(c c':fL)(l:List wy):Prop:=∀q∈l,∀x,c q.1 q.2=some x->c' q.1 q.2=some x
theorem pd.left{c c':fL}{l m:List wy}(h:pd c c' (l++m)):pd c c' l:=λq au=>h q (List.mem_append_left _ au)
theorem pd.right{c c':fL}{l m:List wy}(h:pd c c' (l++m)):pd c c' m:=λq au=>h q (List.mem_append_right _ au)
theorem ac_{E:Env}{c c':fL}{F:Fr}{f:Nat}{x:Operand}{bs:List Arg}{r:D×Fr}(h:∀az,Mn E F f x bs=some az->∀y,c f az=some y->c' f az=some y)(ad:kn E c F f x bs=some r):kn E c' F f x bs=some r:=by
 unfold kn at ad⊢;unfold Mn at h
 split at ad
 .cases ad
 .rename_i ms aX I;simp only[I]at h
  split at ad
  .cases ad
  .rename_i l aa;simp only[aa]at h
   split at ad
   .cases ad
   .rename_i k3 bN aB;simp only[aB]at h
    split at ad
    .cases ad
    .rename_i az aW
     split at ad
     .cases ad
     .rename_i r outs db;simp only[h az aW _ db];exact ad
theorem Ml{E:Env}{c c':fL}{f:Nat}{V:List Nat}{F aD:Fr}{o:Oper}(h:pd c c' (BC E F o))(ad:cV E f V c F o=some aD):cV E f V c' F o=some aD:=by
 unfold cV at ad⊢;unfold BC at h;cases au:o.op with
 |call fF=>
  rw[au]at ad h;simp only at ad h⊢;cases db:fF.callee with
  |value x=>
   rw[db]at ad h;simp only at ad h⊢;cases an:aZ E F x with
   |none=>simp[an]at ad
   |some d=>
    cases d with
    |fn g ey=>
     simp only[an,Option.bind_eq_some_iff]at ad h⊢;obtain⟨r,hr,ad⟩:=ad;refine⟨r,ac_ (λaz yR y aw=>?_) hr,ad⟩;rw[yR]at h;exact h (g,az) (by simp) y aw
    |_=>simp[an]at ad
  |builtin b=>rw[db]at ad;cases b<;>exact ad
  |invoke a b=>rw[db]at ad;exact ad
 |makeFunc fn _ _=>rw[au]at ad;cases fn<;>exact ad
 |makeMap _ r=>rw[au]at ad;cases r<;>exact ad
 |slice _ _ _ _ mx=>rw[au]at ad;cases mx<;>exact ad
 |extract x _=>rw[au]at ad;cases x<;>exact ad
 |move x=>rw[au]at ad;cases x<;>exact ad
 |_=>rw[au]at ad;exact ad
theorem afZ{E:Env}{c c':fL}{f:Nat}{F:Fr}{o:Oper}{d:D}(h:pd c c' (Js E F o))(ad:dJ E f c F o=some d):dJ E f c' F o=some d:=by
 unfold dJ at ad⊢;unfold Js at h;cases au:o.op with
 |call fF=>
  rw[au]at ad h;simp only at ad h⊢;cases db:fF.callee with
  |value x=>
   rw[db]at ad h;simp only at ad h⊢;cases an:aZ E F x with
   |none=>simp[an]at ad
   |some d=>
    cases d with
    |fn g ey=>
     simp only[an]at ad h⊢
     split at ad
     .rename_i ae;rw[if_pos ae];cases af:gu E g F F x none 0 (gF fF.args.toList ey.length) ((gF fF.args.toList ey.length).map λ_=>none)with
      |none=>rw[af]at ad;cases ad
      |some az=>
       rw[af]at ad h;cases yP:c g az with
       |none=>simp[yP]at ad
       |some x=>
        simp only[yP]at ad;simp only[h (g,az) (by simp) x yP];exact ad
     .cases ad
    |_=>simp[an]at ad
  |builtin b=>rw[db]at ad;cases b<;>exact ad
  |invoke a b=>rw[db]at ad;exact ad
 |makeFunc fn _ _=>rw[au]at ad;cases fn<;>exact ad
 |makeMap _ r=>rw[au]at ad;cases r<;>exact ad
 |slice _ _ _ _ mx=>rw[au]at ad;cases mx<;>exact ad
 |extract x _=>rw[au]at ad;cases x<;>exact ad
 |move x=>rw[au]at ad;cases x<;>exact ad
 |_=>rw[au]at ad;exact ad
theorem ad7{E:Env}{c c':fL}{f:Nat}{ops:Array Oper}{F:Fr}{o:Oper}{d:D}(h:pd c c' (Js E F o))(ad:e5 E f c ops F o=some d):e5 E f c' ops F o=some d:=by
 unfold e5 at ad⊢
 split at ad
 .exact afZ h ad
 .exact ad
 .cases ad
theorem G7{E:Env}{c c':fL}{f:Nat}{V:List Nat}{ops:Array Oper}:∀{l:List Nat}{F aD:Fr},pd c c' (BD E f V c ops l F)->fQ E f V c ops l F=some aD->fQ E f V c' ops l F=some aD
 |[],_,_,_,ad=>ad
 |i::l,F,aD,h,ad=>by
  simp only[fQ]at ad⊢;simp only[BD]at h;cases an:ops[i]? with
  |none=>simp only[an]at ad h⊢;exact G7 h ad
  |some o=>
   simp only[an]at ad h⊢;cases hw:fV ops F o with
   |none=>simp[hw]at ad
   |some b=>
    cases b with
    |true=>
     simp only[hw]at ad h⊢;cases I:cV E f V c F o with
     |none=>simp[I]at ad
     |some aX=>
      simp only[I]at ad h;simp only[Ml h.left I];exact G7 h.right ad
    |false=>simp only[hw]at ad h⊢;exact G7 h ad
theorem aes{E:Env}{c c':fL}{f:Nat}{V:List Nat}{ops:Array Oper}{bd:g6}{i:Nat}{F:Fr}{o:Oper}{b:g6×Fr}(hl:pd c c' (BC E (gm (fD ops bd i) F) o))(h:oI E f V c ops bd i F o=some b):oI E f V c' ops bd i F o=some b:=by
 have cP:∀{r},j8 E f V c (gm (fD ops bd i) F) o=some r->j8 E f V c' (gm (fD ops bd i) F) o=some r:=λ{r} h=>by
  unfold j8 at h⊢
  split at h
  .exact h
  split at h
  .exact h
  split at h
  .rename_i z aD aG an;simp only[aG,Ml hl an];exact h
  .cases h
 unfold oI at h⊢
 split at h
 .exact h
 split at h
 .split at h
  .rename_i r hr;simp only[cP hr];exact h
  .cases h
 .cases h
theorem C6{E:Env}{c c':fL}{f:Nat}{V:List Nat}{ops:Array Oper}:∀{l:List Nat}{bd:g6}{F aD:Fr},pd c c' (yi E f V c ops l bd F)->j0 E f V c ops l bd F=some aD->j0 E f V c' ops l bd F=some aD
 |[],_,_,_,_,ad=>ad
 |i::l,bd,F,aD,h,ad=>by
  simp only[j0]at ad⊢;simp only[yi]at h;cases an:ops[i]? with
  |none=>simp[an]at ad
  |some o=>
   simp only[an]at ad h⊢;by_cases aC:la ops i=true
   .simp only[if_pos aC]at ad h⊢;cases hw:fV ops F o with
    |none=>simp[hw]at ad
    |some b=>
     cases b with
     |true=>
      simp only[hw]at ad h⊢;cases I:cV E f V c F o with
      |none=>simp[I]at ad
      |some aX=>
       simp only[I]at ad h;simp only[Ml h.left I];exact C6 h.right ad
     |false=>simp only[hw]at ad h⊢;exact C6 h ad
   .simp only[if_neg aC]at ad h⊢;cases af:e5 E f c ops (gm (fD ops bd i) F) o with
    |none=>
     simp only[af]at ad h
     split at ad
     .rename_i b ag;simp only[ag]at h;rw[KL c' ag af];simp only[aes h.right.left ag];exact C6 h.right.right ad
     .cases ad
    |some d=>
     simp only[af]at ad h;simp only[ad7 h.left af]
     split at ad
     .rename_i ae;rw[if_pos ae];exact C6 h.right ad
     .cases ad
theorem Uw{E:Env}{c c':fL}{f:Nat}{V:List Nat}{ops:Array Oper}{draw:Bool}{F aD:Fr}(h:pd c c' (Jg E f V c ops draw F))(ad:k8 E f V c ops draw F=some aD):k8 E f V c' ops draw F=some aD:=by
 unfold k8 at ad⊢;unfold Jg at h
 split at ad
 .rename_i ah;rw[if_pos ah]at h⊢
  split at ad
  .rename_i ag;rw[if_pos ag];simp only[aA]at ad⊢;obtain⟨aX,I,aa⟩:=ad;exact⟨aX,C6 h I,aa⟩
  .cases ad
 .rename_i ah;rw[if_neg ah]at h⊢;simp only[aA]at ad⊢;obtain⟨aX,I,aa⟩:=ad;exact⟨aX,G7 h I,aa⟩
end Go.aS
namespace Go.aS
open D
def agB(E:Env)(f:Nat)(V:List Nat)(fi:Code)(F:Fr)(x:dU×Fr):Prop:=∃N,∀n,N<=n->eu E f V (gR E n) n fi F=some x
def hx(E:Env)(f:Nat)(V:List Nat)(fi:Code)(F:Fr)(Q:dU->Fr->Prop):Prop:=∃e aD,agB E f V fi F (e,aD)/\Q e aD
def lO:fL:=λ_ _=>none
section
variable{E:Env}{f:Nat}{V:List Nat}{F aD:Fr}{Q:dU->Fr->Prop}
theorem hx.skip(k:Q .normal F):hx E f V .skip F Q:=⟨_,_,⟨0,λ_ _=>rfl⟩,k⟩
theorem hx.exit{id:Nat}(k:Q (.exit id) (trim E f V 3 id F)):hx E f V (.exit id) F Q:=⟨_,_,⟨0,λ_ _=>rfl⟩,k⟩
theorem hx.ret(k:Q .ret F):hx E f V .ret F Q:=⟨_,_,⟨0,λ_ _=>rfl⟩,k⟩
def G8(E:Env)(f:Nat)(V:List Nat)(b:Code)(Q:dU->Fr->Prop):dU->Fr->Prop
 | .normal,F=>hx E f V b F Q
 |e,F=>Q e F
theorem hx.seq{a b:Code}(h:hx E f V a F (G8 E f V b Q)):hx E f V (.seq a b) F Q:=by
 obtain⟨e,aX,⟨N,eL⟩,aa⟩:=h;cases e with
 |normal=>
  obtain⟨a5,bN,⟨K,dA⟩,k2⟩:=aa;exact⟨a5,bN,⟨max N K,λn ao=>by simp only[eu,eL n (by omega)];exact dA n (by omega)⟩,k2⟩
 |exit i=>exact⟨_,_,⟨N,λn ao=>by simp only[eu,eL n ao]⟩,aa⟩
 |ret=>exact⟨_,_,⟨N,λn ao=>by simp only[eu,eL n ao]⟩,aa⟩
theorem hx.cond{y:Operand}{a b:Code}{t:Bool}(aw:aZ E F y=some (.lit (.bool t)))(I:t=true->hx E f V a (trim E f V 1 (wo y) F) Q)(aa:t=false->hx E f V b (trim E f V 2 (wo y) F) Q):hx E f V (.cond y a b) F Q:=by
 cases t with
 |true=>obtain⟨e,aX,⟨N,eL⟩,k2⟩:=I rfl;exact⟨e,aX,⟨N,λn ao=>by simp only[eu,aw,if_true];exact eL n ao⟩,k2⟩
 |false=>obtain⟨e,aX,⟨N,eL⟩,k2⟩:=aa rfl;exact⟨e,aX,⟨N,λn ao=>by simp only[eu,aw,aM,if_false];exact eL n ao⟩,k2⟩
def GI(id:Nat)(Q:dU->Fr->Prop):dU->Fr->Prop
 | .exit i,F=>if i=id then Q .normal F else Q (.exit i) F
 |e,F=>Q e F
theorem hx.block{id:Nat}{b:Code}(h:hx E f V b F (GI id Q)):hx E f V (.block id b) F Q:=by
 obtain⟨e,aX,⟨N,eL⟩,aa⟩:=h;cases e with
 |normal=>exact⟨_,aX,⟨N,λn ao=>by simp only[eu,eL n ao]⟩,aa⟩
 |ret=>exact⟨_,aX,⟨N,λn ao=>by simp only[eu,eL n ao]⟩,aa⟩
 |exit i=>
  simp only[GI]at aa;by_cases hi:i=id
  .rw [if_pos hi]at aa;exact⟨_,aX,⟨N,λn ao=>by simp only[eu,eL n ao,if_pos hi]⟩,aa⟩
  .rw [if_neg hi]at aa;exact⟨_,aX,⟨N,λn ao=>by simp only[eu,eL n ao,if_neg hi]⟩,aa⟩
theorem hx.loop{b:Code}(h:hx E f V b F (G8 E f V (.loop b) Q)):hx E f V (.loop b) F Q:=by
 obtain⟨e,aX,⟨N,eL⟩,aa⟩:=h;cases e with
 |normal=>
  obtain⟨a5,bN,⟨K,dA⟩,k2⟩:=aa;refine⟨a5,bN,⟨max N K+1,λn ao=>?_⟩,k2⟩;obtain⟨m,rfl⟩:∃m,n=m+1:=⟨n-1,by omega⟩
  have hm:=dA m (by omega);simp only[eu]at hm⊢;simp only[iter,eL (m+1) (by omega)];exact LL (λF y aw=>vX (K4 (Nat.le_succ m)) (Nat.le_succ m) aw) (Nat.le_refl m) hm
 |exit i=>
  refine⟨_,_,⟨N+1,λn ao=>?_⟩,aa⟩;obtain⟨m,rfl⟩:∃m,n=m+1:=⟨n-1,by omega⟩
  simp only[eu,iter,eL (m+1) (by omega)]
 |ret=>
  refine⟨_,_,⟨N+1,λn ao=>?_⟩,aa⟩;obtain⟨m,rfl⟩:∃m,n=m+1:=⟨n-1,by omega⟩
  simp only[eu,iter,eL (m+1) (by omega)]
end
def aeg(E:Env)(f:Nat)(fd:Func)(n:Nat)(r:D)(outs:List D):dU->Fr->Prop
 | .exit _,_=>False
 |_,F=>ow E f fd n F=some (r,outs)
theorem bR.Xb{E:Env}{f:Nat}{fd:Func}{fi:Code}{az:List D}{r:D}{outs:List D}{fS:Fr}(af:E.kG f=none)(hf:E.P.funcs[f]?=some fd)(ag:fd.body=some fi)(hl:az.length<=fd.ntmps/\fd.ntmps<1000000)
  (aO:norm (E.vars f++ij E f 0 az.length) (nH E f 0 az)=fS) (hr:hx E f (E.vars f++ij E f 0 az.length) fi fS (aeg E f fd az.length r outs)):bR E f az r outs:=by
 obtain⟨e,F,⟨N,eL⟩,aa⟩:=hr;subst aO;refine bR.of (n:=N+1) ?_;simp only[gR,af,hf,ag,if_pos hl,eL N (Nat.le_refl N)];cases e with
 |exit i=>exact aa.elim
 |normal=>exact aa
 |ret=>exact aa
end Go.aS
namespace Go.aS
open D
inductive ki|seq (b:Code)|block (id:Nat)|loop (b:Code)
def rI:Code->List ki->Code×List ki
 | .seq a b,ks=>rI a (.seq b::ks)
 | .block id b,ks=>rI b (.block id::ks)
 |c,ks=>(c,ks)
def go:Code->List Nat->List ki->Code×List ki
 | .seq a b,i::p,ks=>match i with
  |0=>go a p (.seq b::ks)
  |_=>go b p ks
 | .cond _ a b,i::p,ks=>match i with
  |0=>go a p ks
  |_=>go b p ks
 | .block id b,_::p,ks=>go b p (.block id::ks)
 | .loop b,_::p,ks=>go b p (.loop b::ks)
 |c,_,ks=>(c,ks)
def mX:List ki->Option (Code×List ki)
 |[]=>none
 | .seq b::ks=>some (rI b ks)
 | .block _::ks=>mX ks
 | .loop b::ks=>some (.loop b,ks)
def uv(id:Nat):List ki->Option (List ki)
 |[]=>none
 | .block i::ks=>if id=i then some ks else uv id ks
 | .seq _::ks=>uv id ks
 | .loop _::ks=>uv id ks
section
variable{E:Env}{f:Nat}{V:List Nat}{F aD:Fr}{Q:dU->Fr->Prop}
def qU(E:Env)(f:Nat)(V:List Nat):List ki->(dU->Fr->Prop)->dU->Fr->Prop
 |[],Q=>Q
 | .seq b::ks,Q=>G8 E f V b (qU E f V ks Q)
 | .block id::ks,Q=>GI id (qU E f V ks Q)
 | .loop b::ks,Q=>G8 E f V (.loop b) (qU E f V ks Q)
def Dm(E:Env)(f:Nat)(V:List Nat)(c:Code×List ki)(F:Fr)(Q:dU->Fr->Prop):Prop:=hx E f V c.1 F (qU E f V c.2 Q)
theorem x9:∀(c:Code)(ks:List ki){F:Fr},Dm E f V (rI c ks) F Q->Dm E f V (c,ks) F Q
 | .seq a b,ks,_,h=>hx.seq (x9 a (.seq b::ks) h)
 | .block id b,ks,_,h=>hx.block (x9 b (.block id::ks) h)
 | .skip,_,_,h=>h
 | .region ..,_,_,h=>h
 | .cond ..,_,_,h=>h
 | .loop _,_,_,h=>h
 | .exit _,_,_,h=>h
 | .ret,_,_,h=>h
 | .rangeFunc ..,_,_,h=>h
 | .scope _,_,_,h=>h
 | .label _,_,_,h=>h
 | .goto _,_,_,h=>h
 | .refuse _,_,_,h=>h
theorem Gu:∀{ks:List ki}{c:Code×List ki}{F:Fr},mX ks=some c->Dm E f V c F Q->qU E f V ks Q .normal F
 |[],c,_,h,_=>by simp[mX]at h
 | .seq b::ks,c,F,h,k=>by
  simp only[mX,aE]at h;subst h;exact x9 b ks k
 | .block id::ks,c,F,h,k=>Gu (ks:=ks) h k
 | .loop b::ks,c,F,h,k=>by
  simp only[mX,aE]at h;subst h;exact k
theorem CW{id:Nat}:∀{ks oT:List ki}{F:Fr},uv id ks=some oT->qU E f V oT Q .normal F->qU E f V ks Q (.exit id) F
 |[],_,_,h,_=>by simp[uv]at h
 | .seq _::ks,oT,F,h,k=>CW (ks:=ks) h k
 | .loop _::ks,oT,F,h,k=>CW (ks:=ks) h k
 | .block i::ks,oT,F,h,k=>by
  simp only[uv]at h;simp only[qU,GI]
  split at h
  .rename_i hi;simp only[aE]at h;subst h;rw[if_pos hi];exact k
  .rename_i hi;rw[if_neg hi];exact CW h k
theorem GR:∀{ks:List ki}{F:Fr},Q .ret F->qU E f V ks Q .ret F
 |[],_,k=>k
 | .seq _::ks,_,k=>GR (ks:=ks) k
 | .loop _::ks,_,k=>GR (ks:=ks) k
 | .block _::ks,_,k=>GR (ks:=ks) k
theorem GQ:∀{ks:List ki}{F:Fr},mX ks=none->Q .normal F->qU E f V ks Q .normal F
 |[],_,_,k=>k
 | .seq _::ks,_,h,_=>by simp[mX]at h
 | .loop _::ks,_,h,_=>by simp[mX]at h
 | .block _::ks,_,h,k=>GQ (ks:=ks) h k
abbrev oD:=g6×Fr
def qC(draw:Bool)(ops:Array Oper)(i:Nat)(s:oD):Fr:=bif draw&&!la ops i then gm (fD ops s.1 i) s.2 else s.2
def I7(draw:Bool)(ops:Array Oper)(i:Nat)(s:oD)(dst:Option Nat)(d:D):oD:=
 bif draw then(bif la ops i then([],fin s.2 dst d)else((i,dst.toList,none)::s.1,lF s.2 dst d))else(s.1,fin s.2 dst d)
def qn(E:Env)(f:Nat)(V:List Nat)(call:fL)(ops:Array Oper)(draw:Bool)(i:Nat)(s:oD):Option oD:=match ops[i]? with
 |none=>none
 |some o=>
  bif draw then
   bif la ops i then match fV ops s.2 o with
    |some true=>(cV E f V call s.2 o).map λaD=>([],aD)
    |some false=>some ([],fin s.2 o.dst (bt []))
    |none=>none
   else match e5 E f call ops (gm (fD ops s.1 i) s.2) o with
    |some d=>bif jZ ops (gm (fD ops s.1 i) s.2) o&&qa s.2 o&&uo s.1 o&&rl ops s.1 i d then some ((i,o.dst.toList,none)::s.1,lF s.2 o.dst d)else none
    |none=>oI E f V call ops s.1 i s.2 o
  else match fV ops s.2 o with
   |some true=>(cV E f V call s.2 o).map λaD=>(s.1,aD)
   |some false=>some (s.1,fin s.2 o.dst (bt []))
   |none=>none
def wI(E:Env)(f:Nat)(V:List Nat)(call:fL)(ops:Array Oper)(draw:Bool)(l:List Nat)(s:oD):Option Fr:=
 if draw then j0 E f V call ops l s.1 s.2 else fQ E f V call ops l s.2
theorem abk{call:fL}{ops:Array Oper}{draw:Bool}{i:Nat}{l:List Nat}{s bk:oD}(h:qn E f V call ops draw i s=some bk):wI E f V call ops draw (i::l) s=wI E f V call ops draw l bk:=by
 obtain⟨bd,F⟩:=s;unfold qn at h;cases an:ops[i]? with
 |none=>simp[an]at h
 |some o=>
  simp only[an]at h;cases draw with
  |true=>
   simp only[cond_true]at h;simp only[wI,if_true,j0,an];cases aC:la ops i with
   |true=>
    simp only[aC,cond_true]at h;simp only[if_true];cases hw:fV ops F o with
    |none=>simp[hw]at h
    |some b=>
     cases b with
     |true=>
      simp only[hw,aA]at h;obtain⟨aD,I,rfl⟩:=h;simp only[I]
     |false=>
      simp only[hw,aE]at h;subst h;rfl
   |false=>
    simp only[aC,cond_false]at h;simp only[aM,if_false]
    split at h
    .rename_i d af;cases ad:(jZ ops (gm (fD ops bd i) F) o&&qa F o&&uo bd o&&rl ops bd i d)with
     |false=>rw[ad]at h;simp at h
     |true=>
      rw[ad]at h;simp only[cond_true,aE]at h;subst h;simp only[af,ad,if_true];rfl
    .rename_i af;simp only[af,h]
  |false=>
   simp only[cond_false]at h;simp only[wI,aM,if_false,fQ,an];cases hw:fV ops F o with
   |none=>simp[hw]at h
   |some b=>
    cases b with
    |true=>
     simp only[hw,aA]at h;obtain⟨aD,I,rfl⟩:=h;simp only[I]
    |false=>
     simp only[hw,aE]at h;subst h;rfl
theorem Ln{c c':fL}(h:ou c c'){ops:Array Oper}{draw:Bool}{i:Nat}{s bk:oD}(ad:qn E f V c ops draw i s=some bk):qn E f V c' ops draw i s=some bk:=by
 unfold qn at ad⊢
 split at ad
 .cases ad
 .rename_i o an;cases draw with
  |true=>
   simp only[cond_true]at ad⊢;cases aC:la ops i with
   |true=>
    simp only[aC,cond_true]at ad⊢
    split at ad
    .simp only[aA]at ad⊢;obtain⟨aD,I,aa⟩:=ad;exact⟨aD,An h I,aa⟩
    .exact ad
    .cases ad
   |false=>
    simp only[aC,cond_false]at ad⊢
    split at ad
    .rename_i d af;rw[GB h af];exact ad
    .rename_i af;rw[KL c' ad af];exact TQ h ad
  |false=>
   simp only[cond_false]at ad⊢
   split at ad
   .simp only[aA]at ad⊢;obtain⟨aD,I,aa⟩:=ad;exact⟨aD,An h I,aa⟩
   .exact ad
   .cases ad
def ee(E:Env)(f:Nat)(V:List Nat)(body:Code)(p:List Nat)(F:Fr)(Q:dU->Fr->Prop):Prop:=Dm E f V (go body p []) F Q
variable{body:Code}{p Xf:List Nat}
variable{j:Nat}{s bk:oD}
theorem ZQ{n j:Nat}(h:j<n):(aQ n).drop j=j::(aQ n).drop (j+1):=by
 rw[List.drop_eq_getElem_cons (by simpa using h)];simp
theorem Gj{c:fL}:ou lO c:=λf az x h=>by cases h
end
end Go.aS
