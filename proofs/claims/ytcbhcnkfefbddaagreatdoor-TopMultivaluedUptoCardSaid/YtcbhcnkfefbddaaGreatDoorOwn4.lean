/- An interpreter of function bodies, sound. No conditions. -/
import Derived.Test.YtcbhcnkfefbddaaGreatDoorOwn3
set_option linter.all false
open Option renaming map_eq_some_iff->aA
namespace Go.aS
open D
abbrev fL:=Nat->List D->Option (D×List D)
def ou(c c':fL):Prop:=∀f az x,c f az=some x->c' f az=some x
theorem abZ{E:Env}{c c':fL}(h:ou c c'){F:Fr}{f:Nat}{x:Operand}{bs:List Arg}{r:D×Fr}(ad:kn E c F f x bs=some r):kn E c' F f x bs=some r:=by
 unfold kn at ad⊢
 split at ad
 .cases ad
 .split at ad
  .cases ad
  .split at ad
   .cases ad
   .split at ad
    .cases ad
    .rename_i aW _ _ aB _ aa _ _ _ I
     split at ad
     .cases ad
     .rename_i r outs db;simp only[h _ _ _ db];exact ad
theorem An{E:Env}{c c':fL}(h:ou c c'){f:Nat}{V:List Nat}{F aD:Fr}{o:Oper}(ad:cV E f V c F o=some aD):cV E f V c' F o=some aD:=by
 unfold cV at ad⊢;cases au:o.op with
 |call fF=>
  rw[au]at ad;simp only at ad⊢;cases db:fF.callee with
  |value x=>
   rw[db]at ad;simp only at ad⊢;cases an:aZ E F x with
   |none=>simp[an]at ad
   |some d=>
    cases d with
    |fn g ey=>
     simp only[an,Option.bind_eq_some_iff]at ad⊢;obtain⟨r,hr,ad⟩:=ad;exact⟨r,abZ h hr,ad⟩
    |_=>simp[an]at ad
  |builtin b=>rw[db]at ad;cases b<;>exact ad
  |invoke a b=>rw[db]at ad;exact ad
 |makeFunc fn _ _=>rw[au]at ad;cases fn<;>exact ad
 |makeMap _ r=>rw[au]at ad;cases r<;>exact ad
 |slice _ _ _ _ mx=>rw[au]at ad;cases mx<;>exact ad
 |extract x _=>rw[au]at ad;cases x<;>exact ad
 |move x=>rw[au]at ad;cases x<;>exact ad
 |_=>rw[au]at ad;exact ad
theorem aee{E:Env}{c c':fL}(h:ou c c'){f:Nat}{F:Fr}{o:Oper}{d:D}(ad:dJ E f c F o=some d):dJ E f c' F o=some d:=by
 unfold dJ at ad⊢;cases au:o.op with
 |call fF=>
  rw[au]at ad;simp only at ad⊢;cases db:fF.callee with
  |value x=>
   rw[db]at ad;simp only at ad⊢;cases an:aZ E F x with
   |none=>simp[an]at ad
   |some d=>
    cases d with
    |fn g ey=>
     simp only[an]at ad⊢
     split at ad
     .rename_i ae;rw[if_pos ae]
      split at ad
      .rename_i az af;cases yP:c g az with
       |none=>simp[yP]at ad
       |some x=>
        rw[yP]at ad;simp only[h _ _ _ yP];exact ad
      .cases ad
     .cases ad
    |_=>simp[an]at ad
  |builtin b=>rw[db]at ad;cases b<;>exact ad
  |invoke a b=>rw[db]at ad;exact ad
 |makeFunc fn _ _=>rw[au]at ad;cases fn<;>exact ad
 |makeMap _ r=>rw[au]at ad;cases r<;>exact ad
 |slice _ _ _ _ mx=>rw[au]at ad;cases mx<;>exact ad
 |extract x _=>rw[au]at ad;cases x<;>exact ad
 |move x=>rw[au]at ad;cases x<;>exact ad
 |_=>rw[au]at ad;exact ad
theorem GB{E:Env}{c c':fL}(h:ou c c'){f:Nat}{ops:Array Oper}{F:Fr}{o:Oper}{d:D}(ad:e5 E f c ops F o=some d):e5 E f c' ops F o=some d:=by
 unfold e5 at ad⊢
 split at ad
 .exact aee h ad
 .exact ad
 .cases ad
theorem ab5{E:Env}{c:fL}{f:Nat}{V:List Nat}{F:Fr}{o:Oper}{r:List (Nat×D)×List (Nat×Path)}(h:j8 E f V c F o=some r):(∀fF x,o.op=.call fF->fF.callee≠.value x)∨∃fF g u rest,o.op=.call fF/\fF.callee=.value (.func g)/\fF.args.toList=.tmp u::rest/\E.mode g 0=.eF:=by
 unfold j8 at h
 split at h
 .rename_i r hr;left;intro fF x au _;unfold mo at hr;rw[au]at hr;cases hr
 split at h
 .rename_i r hr;left;intro fF x au _;unfold sJ at hr;rw[au]at hr;cases hr
 split at h
 case h_2=>cases h
 rename_i z aD aG _;unfold mT at aG
 split at aG
 case h_2=>rename_i aP;left;intro fF x au;rw[aP]at au;cases au
 case h_3=>rename_i aP;left;intro fF x au;rw[aP]at au;cases au
 case h_4=>rename_i aP;left;intro fF x au;rw[aP]at au;cases au
 case h_5=>cases aG
 rename_i fF aP
 split at aG
 case h_1=>rename_i db;left;intro al7 x au ad;rw[aP]at au;cases au;rw[db]at ad;cases ad
 case h_3=>cases aG
 rename_i g db;unfold Gc at aG
 split at aG
 case h_2=>cases aG
 rename_i u rest t iC fq
 split at aG
 case h_2=>cases aG
 split at aG
 case isFalse=>cases aG
 rename_i ad;simp only[Bool.and_eq_true]at ad;exact .inr ⟨fF,g,u,rest,aP,db,iC,by simpa using ad.1.1⟩
theorem abA{E:Env}{c c':fL}{f:Nat}{F:Fr}{o:Oper}(h:∀fF x,o.op=.call fF->fF.callee≠.value x):dJ E f c F o=dJ E f c' F o:=by
 unfold dJ;cases au:o.op with
 |call fF=>
  simp only;cases db:fF.callee with
  |value x=>exact absurd db (h fF x au)
  |builtin b=>cases b<;>rfl
  |invoke a b=>rfl
 |makeFunc fn _ _=>cases fn<;>rfl
 |makeMap _ r=>cases r<;>rfl
 |slice _ _ _ _ mx=>cases mx<;>rfl
 |extract x _=>cases x<;>rfl
 |move x=>cases x<;>rfl
 |_=>rfl
theorem adg{E:Env}{c c':fL}(hl:ou c c'){f:Nat}{V:List Nat}{F:Fr}{o:Oper}{r:List (Nat×D)×List (Nat×Path)}(h:j8 E f V c F o=some r):j8 E f V c' F o=some r:=by
 unfold j8 at h⊢
 split at h
 .exact h
 split at h
 .exact h
 split at h
 .rename_i z aD aG an;simp only[aG,An hl an];exact h
 .cases h
theorem TQ{E:Env}{c c':fL}(hl:ou c c'){f:Nat}{V:List Nat}{ops:Array Oper}{bd:g6}{i:Nat}{F:Fr}{o:Oper}{b:g6×Fr}(h:oI E f V c ops bd i F o=some b):oI E f V c' ops bd i F o=some b:=by
 unfold oI at h⊢
 split at h
 .exact h
 split at h
 .split at h
  .rename_i r hr;simp only[adg hl hr];exact h
  .cases h
 .cases h
theorem RI{E:Env}{f:Nat}{ops:Array Oper}{bd:g6}{i:Nat}{F:Fr}{o:Oper}{d:D}(h:Af E f ops bd i F o=some d):(∃t u,o.op=.load t u)∨∃t u j,o.op=.fieldAddr t u j:=by
 unfold Af at h
 split at h
 .rename_i hl;unfold Av at hl
  split at hl
  .rename_i an _;exact .inl ⟨_,_,an⟩
  .rename_i an _;exact .inr ⟨_,_,_,an⟩
  .cases hl
 .cases h
theorem ZR{E:Env}{c:fL}{f M5:Nat}{V:List Nat}{ops:Array Oper}{bd:g6}{i:Nat}{F A:Fr}{o:Oper}{r:List (Nat×D)×List (Nat×Path)}(h:j8 E f V c F o=some r):Af E M5 ops bd i A o=none:=by
 cases hl:Af E M5 ops bd i A o with
 |none=>rfl
 |some d=>
  rcases RI hl with⟨t,u,an⟩|⟨t,u,j,an⟩
  .unfold j8 mo sJ mT at h;simp[an]at h
  .unfold j8 mo sJ mT at h;simp[an]at h
theorem KL{E:Env}{c:fL}(c':fL){f:Nat}{V:List Nat}{ops:Array Oper}{bd:g6}{i:Nat}{F A:Fr}{o:Oper}{b:g6×Fr}(h:oI E f V c ops bd i F o=some b)(af:e5 E f c ops A o=none):e5 E f c' ops A o=none:=by
 have no:(∀fF x,o.op=.call fF->fF.callee≠.value x)->e5 E f c' ops A o=none:=λao=>by
  unfold e5 at af⊢;rw[abA ao (c':=c)];exact af
 unfold oI at h
 split at h
 .rename_i d ah;rcases RI ah with⟨t,u,an⟩|⟨t,u,j,an⟩
  .exact no λfF x ad=>by rw[an]at ad;cases ad
  .exact no λfF x ad=>by rw[an]at ad;cases ad
 split at h
 .split at h
  .rename_i r hr;rcases ab5 hr with ao|⟨fF,g,u,rest,I,aa,aB,aW⟩
   .exact no ao
   .have av:∀c,dJ E f c A o=none:=λc=>by
     have ae:C1 E g (gF fF.args.toList 0).length=false:=by
      unfold C1;rw[List.all_eq_false];refine⟨0,by rw[List.mem_range,aB];simp[gF],by rw[aW];decide⟩
     unfold dJ;simp only[I,aa,aZ,List.length_nil,ae,Bool.false_eq_true,if_false]
    unfold e5 at af⊢;rw[av]at af⊢;exact af
  .cases h
 .cases h
theorem GS{E:Env}{c c':fL}(h:ou c c'){f:Nat}{V:List Nat}{ops:Array Oper}:∀{l:List Nat}{F aD:Fr},fQ E f V c ops l F=some aD->fQ E f V c' ops l F=some aD
 |[],_,_,ad=>ad
 |i::l,F,aD,ad=>by
  simp only[fQ]at ad⊢
  split at ad
  .exact GS h ad
  .split at ad
   .rename_i o _ _ _
    split at ad
    .rename_i aX I;simp only[An h I];exact GS h ad
    .cases ad
   .exact GS h ad
   .cases ad
theorem CT{E:Env}{c c':fL}(h:ou c c'){f:Nat}{V:List Nat}{ops:Array Oper}:∀{l:List Nat}{bd:g6}{F aD:Fr},j0 E f V c ops l bd F=some aD->j0 E f V c' ops l bd F=some aD
 |[],_,_,_,ad=>ad
 |i::l,bd,F,aD,ad=>by
  simp only[j0]at ad⊢
  split at ad
  .cases ad
  .split at ad
   .rename_i aC;rw[if_pos aC]
    split at ad
    .split at ad
     .rename_i aX I;simp only[An h I];exact CT h ad
     .cases ad
    .exact CT h ad
    .cases ad
   .rename_i aC;rw[if_neg aC]
    split at ad
    .rename_i d af;simp only[GB h af]
     split at ad
     .rename_i ae;rw[if_pos ae];exact CT h ad
     .cases ad
    .rename_i af
     split at ad
     .rename_i b ag;rw[KL c' ag af];simp only[TQ h ag];exact CT h ad
     .cases ad
theorem ad8{E:Env}{c c':fL}(h:ou c c'){f:Nat}{V:List Nat}{ops:Array Oper}{draw:Bool}{F aD:Fr}(ad:k8 E f V c ops draw F=some aD):k8 E f V c' ops draw F=some aD:=by
 unfold k8 at ad⊢
 split at ad
 .rename_i ah;rw[if_pos ah]
  split at ad
  .rename_i ag;rw[if_pos ag];simp only[aA]at ad⊢;obtain⟨aX,I,aa⟩:=ad;exact⟨aX,CT h I,aa⟩
  .cases ad
 .rename_i ah;rw[if_neg ah];simp only[aA]at ad⊢;obtain⟨aX,I,aa⟩:=ad;exact⟨aX,GS h I,aa⟩
theorem LL{b iA:Fr->Option (dU×Fr)}(h:∀F x,b F=some x->iA F=some x):∀{n m:Nat}{F:Fr}{x:dU×Fr},n<=m->iter n b F=some x->iter m iA F=some x
 |0,_,_,_,_,ad=>by simp[iter]at ad
 |n+1,0,_,_,hm,_=>by omega
 |n+1,m+1,F,x,hm,ad=>by
  simp only[iter]at ad⊢;cases ag:b F with
  |none=>simp[ag]at ad
  |some q=>
   rw[ag]at ad;rw[h _ _ ag];obtain⟨e,aX⟩:=q;cases e with
   |normal=>exact LL h (by omega) ad
   |exit id=>exact ad
   |ret=>exact ad
theorem vX{E:Env}{c c':fL}(h:ou c c'){f:Nat}{V:List Nat}{n m:Nat}(ao:n<=m):∀{fi:Code}{F:Fr}{x:dU×Fr},eu E f V c n fi F=some x->eu E f V c' m fi F=some x
 | .skip,_,_,ad=>ad
 | .exit _,_,_,ad=>ad
 | .ret,_,_,ad=>ad
 | .region _ ops draw,F,x,ad=>by
  simp only[eu,aA]at ad⊢;obtain⟨aX,I,aa⟩:=ad;exact⟨aX,ad8 h I,aa⟩
 | .seq a b,F,x,ad=>by
  simp only[eu]at ad⊢;cases hr:eu E f V c n a F with
  |none=>simp[hr]at ad
  |some q=>
   rw[hr]at ad;rw[vX h ao hr];obtain⟨e,aX⟩:=q;cases e with
   |normal=>exact vX h ao ad
   |exit id=>exact ad
   |ret=>exact ad
 | .cond y a b,F,x,ad=>by
  simp only[eu]at ad⊢
  split at ad
  .split at ad
   .rename_i al;rw[if_pos al];exact vX h ao ad
   .rename_i al;rw[if_neg al];exact vX h ao ad
  .cases ad
 | .block id b,F,x,ad=>by
  simp only[eu]at ad⊢;cases hr:eu E f V c n b F with
  |none=>simp[hr]at ad
  |some q=>
   rw[hr]at ad;rw[vX h ao hr];exact ad
 | .loop b,F,x,ad=>by
  simp only[eu]at ad⊢;exact LL (λF y aw=>vX h ao aw) ao ad
 | .rangeFunc ..,_,_,ad=>by simp[eu]at ad
 | .scope _,_,_,ad=>by simp[eu]at ad
 | .label _,_,_,ad=>by simp[eu]at ad
 | .goto _,_,_,ad=>by simp[eu]at ad
 | .refuse _,_,_,ad=>by simp[eu]at ad
theorem SM{c c':fL}(h:ou c c'):∀(q:Ask){x:D×List D},fz c q=some x->fz c' q=some x
 | .ret _,_,ad=>ad
 | .call f az k,x,ad=>by
  simp only[fz]at ad⊢
  split at ad
  .rename_i r hr;rw[h f az r hr];exact SM h (k r) ad
  .cases ad
theorem K4{E:Env}:∀{n m:Nat},n<=m->ou (gR E n) (gR E m)
 |0,_,_=>λf az x ad=>by simp[gR]at ad
 |n+1,0,hm=>by omega
 |n+1,m+1,hm=>λf az x ad=>by
  have aN:=K4 (E:=E) (n:=n) (m:=m) (by omega);simp only[gR]at ad⊢
  split at ad
  .split at ad
   .exact ad
   .split at ad
    .exact SM aN _ ad
    .cases ad
  .split at ad
   .cases ad
   .split at ad
    .cases ad
    .split at ad
     .rename_i hl;rw[if_pos hl];cases hr:eu E f (E.vars f++ij E f 0 az.length) (gR E n) n _ (norm (E.vars f++ij E f 0 az.length) (nH E f 0 az))with
      |none=>rw[hr]at ad;cases ad
      |some q=>
       rw[hr]at ad;rw[vX aN (by omega) hr];exact ad
     .cases ad
def bR(E:Env)(f:Nat)(az:List D)(r:D)(outs:List D):Prop:=∃n,∀m,n<=m->gR E m f az=some (r,outs)
theorem bR.of{E:Env}{n f:Nat}{az:List D}{r:D}{outs:List D}(h:gR E n f az=some (r,outs)):bR E f az r outs:=⟨n,λ_ hm=>K4 hm f az _ h⟩
end Go.aS
