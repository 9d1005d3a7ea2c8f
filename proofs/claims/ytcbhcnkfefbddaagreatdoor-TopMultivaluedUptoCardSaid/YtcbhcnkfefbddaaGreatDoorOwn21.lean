/- An interpreter of function bodies, sound. No conditions. -/
import Derived.KernelRfl
import Derived.Test.YtcbhcnkfefbddaaGreatDoorOwn16
set_option linter.all false
open Option renaming map_some->aA
open Bool renaming and_eq_true->aM,not_true->aQ,false_eq_true->a6
namespace Go.aS
open D
inductive cL
 |gv (c:Code×List ki) (F:Fr)
 |op (id:Nat) (ops:Array Oper) (draw:Bool) (ks:List ki) (j:Nat) (s:oD)
 |bad
def Mk(ops:Array Oper)(d:Bool):Bool:=!d || (Gd ops&&ops.toList.all (λo=>match o.op with| .select ..=>false|_=>true))
def Dj : Oper := { op := .move (.const undef), dst := none, type := 0, after := #[], guard := none, pos := "" }
section
variable{E:Env}{f:Nat}{V:List Nat}{Q:dU->Fr->Prop}{m:cL}
def sM(E:Env)(f:Nat)(V:List Nat):cL->cL
 | .gv (.region id ops draw,ks) F=>bif Mk ops draw then .op id ops draw ks 0 ([],bif draw then mn F ops.toList else F)else .bad
 | .gv (.skip,ks) F=>match mX ks with
  |some c=>.gv c F
  |none=>.bad
 | .gv (.cond y a b,ks) F=>match aZ E F y with
  |some (lit (.bool t))=>bif t then .gv (rI a ks) (trim E f V 1 (wo y) F)else .gv (rI b ks) (trim E f V 2 (wo y) F)
  |_=>.bad
 | .gv (.exit id,ks) F=>match uv id ks with
  |some oT=>match mX oT with
   |some c=>.gv c (trim E f V 3 id F)
   |none=>.bad
  |none=>.bad
 | .gv (.loop b,ks) F=>.gv (rI b (.loop b::ks)) F
 | .gv _ _=>.bad
 | .op id ops draw ks j s=>match ops[j]? with
  |none=>match mX ks with
   |some c=>.gv c (trim E f V 0 id (norm V s.2))
   |none=>.bad
  |some _=>match qn E f V lO ops draw j s with
   |some bk=>.op id ops draw ks (j+1) bk
   |none=>.bad
 | .bad=>.bad
def runM(E:Env)(f:Nat)(V:List Nat):Nat->cL->cL
 |0,m=>m
 |n+1,m=>runM E f V n (sM E f V m)
def kk(E:Env)(f:Nat)(V:List Nat)(Q:dU->Fr->Prop):cL->Prop
 | .gv c F=>Dm E f V c F Q
 | .op id ops draw ks j s=>∃aX,(∃N,∀n,N<=n->wI E f V (gR E n) ops draw ((List.range ops.size).drop j) s=some aX)/\qU E f V ks Q .normal (trim E f V 0 id (norm V aX))
 | .bad=>False
theorem kk.E4{id:Nat}{ops:Array Oper}{draw:Bool}{ks:List ki}{j:Nat}{s bk:oD}(ae:∃N,∀n,N<=n->qn E f V (gR E n) ops draw j s=some bk)(k:kk E f V Q (.op id ops draw ks (j+1) bk)):kk E f V Q (.op id ops draw ks j s):=by
 obtain⟨N,eL⟩:=ae;obtain⟨aX,⟨M,bW⟩,k⟩:=k;have aH:j<ops.size:=by
  have:=eL N (Nat.le_refl N);unfold qn at this;cases an:ops[j]? with
  |none=>simp[an]at this
  |some o=>exact(Array.getElem?_eq_some_iff.1 an).1
 refine⟨aX,⟨max N M,λn ao=>?_⟩,k⟩;rw[ZQ aH,abk (eL n (by omega))];exact bW n (by omega)
theorem Gx:∀(m:cL),kk E f V Q (sM E f V m)->kk E f V Q m
 | .bad,h=>h
 | .op id ops draw ks j s,h=>by
  simp only[sM]at h
  split at h
  .rename_i aH
   split at h
   .rename_i c ad;refine⟨s.2,⟨0,λn _=>?_⟩,Gu ad h⟩;have:ops.size<=j:=by simpa using aH
    rw[List.drop_eq_nil_iff.2 (by simpa using this)];simp only[wI,j0,fQ,ite_self]
   .exact h.elim
  .split at h
   .rename_i bk ae;exact kk.E4 ⟨0,λn _=>Ln Gj ae⟩ h
   .exact h.elim
 | .gv (c,ks) F,h=>by
  cases c with
  |region id ops draw=>
   simp only[sM]at h;cases hr:Mk ops draw with
   |false=>rw[hr]at h;exact h.elim
   |true=>
    rw[hr]at h;simp only[cond_true]at h;obtain⟨aX,⟨N,eL⟩,k⟩:=h;refine⟨_,_,⟨N,λn ao=>?_⟩,k⟩;have:=eL n ao;simp only[List.drop_zero,wI]at this;simp only[eu,k8];unfold Mk at hr;cases draw with
    |true=>
     simp only[aQ,Bool.false_or]at hr;simp only[if_true,cond_true]at this;simp only[if_true];rw[if_pos (by exact hr),this];rfl
    |false=>
     simp only[a6,if_false,cond_false]at this;simp only[a6,if_false,this,aA]
  |skip=>
   simp only[sM]at h
   split at h
   .rename_i d ah;exact hx.skip (Gu ah h)
   .exact h.elim
  |cond y a b=>
   simp only[sM]at h
   split at h
   .rename_i t al;cases t with
    |true=>
     simp only[cond_true]at h;exact hx.cond al (λ_=>x9 a ks h) (λh=>by cases h)
    |false=>
     simp only[cond_false]at h;exact hx.cond al (λh=>by cases h) (λ_=>x9 b ks h)
   .exact h.elim
  |exit id=>
   simp only[sM]at h
   split at h
   .rename_i oT aj
    split at h
    .rename_i d ah;exact hx.exit (CW aj (Gu ah h))
    .exact h.elim
   .exact h.elim
  |loop b=>exact hx.loop (x9 b (.loop b::ks) h)
  |_=>exact h.elim
theorem T3:∀(n:Nat)(m:cL),kk E f V Q (runM E f V n m)->kk E f V Q m
 |0,_,h=>h
 |n+1,m,h=>Gx m (T3 n _ h)
def bV:cL->Oper
 | .op _ ops _ _ j _=>match ops[j]? with
  |some o=>o
  |none=>Dj
 |_=>Dj
def ek:cL->Fr
 | .op _ ops draw _ j s=>qC draw ops j s
 | .gv _ F=>F
 | .bad=>[]
def dc:cL->Fr
 | .op _ _ _ _ _ s=>s.2
 | .gv _ F=>F
 | .bad=>[]
def mL:cL->D->cL
 | .op id ops draw ks j s,d=>bif draw&&(!la ops j&&!rl ops s.1 j d)then .bad else .op id ops draw ks (j+1) (I7 draw ops j s (match ops[j]? with|some o=>o|none=>Dj).dst d)
 |_,_=>.bad
def vo:cL->Fr->cL
 | .op id ops draw ks j s,F=>.op id ops draw ks (j+1) (bif draw then[]else s.1,F)
 |_,_=>.bad
def EZ:cL->D->cL
 | .op id ops draw ks j s,d=>bif rl ops s.1 j d then .op id ops draw ks (j+1) ((j,(match ops[j]? with|some o=>o|none=>Dj).dst.toList,none)::s.1,lF s.2 (match ops[j]? with|some o=>o|none=>Dj).dst d)else .bad
 |_,_=>.bad
def o6:cL->Bool
 | .op _ ops draw _ j s=>match ops[j]? with
  |some o=>T1 o.op&&Aj (fV ops (qC draw ops j s) o)&&(bif draw&&!la ops j then jZ ops (qC draw ops j s) o&&qa s.2 o&&uo s.1 o else true)
  |none=>false
 |_=>false
def pV:cL->Bool
 | .op _ ops draw _ j s=>match ops[j]? with
  |some o=>Aj (fV ops s.2 o)&&(!draw || la ops j)
  |none=>false
 |_=>false
def IX:cL->Bool
 | .op _ ops draw _ j s=>match ops[j]? with
  |some o=>draw&&!la ops j&&Aj (fV ops (qC draw ops j s) o)&&(jZ ops (qC draw ops j s) o&&qa s.2 o&&uo s.1 o)
  |none=>false
 |_=>false
theorem agf{d:D}(cm:o6 m=true)(av:dJ E f lO (ek m) (bV m)=some d)(k:kk E f V Q (mL m d)):kk E f V Q m:=by
 cases m with
 |gv c F=>cases cm
 |bad=>cases cm
 |op id ops draw ks j s=>
  simp only[mL]at k;cases za:(draw&&(!la ops j&&!rl ops s.1 j d))with
  |true=>rw[za]at k;exact k.elim
  |false=>
  rw[za]at k;refine kk.E4 ⟨0,λn _=>Ln Gj ?_⟩ k;simp only[o6]at cm;simp only[ek,bV]at av;unfold qn
  split at cm
  .rename_i o an;simp only[an]at av;simp only[an,aM]at cm⊢;obtain⟨⟨af,hw⟩,ah⟩:=cm;have hw:=Gh hw;cases draw with
   |false=>
    simp only[qC,Bool.false_and,cond_false]at hw av;simp only[cond_false,I7,hw,RN af av,aA]
   |true=>
    cases aC:la ops j with
    |true=>
     simp only[aC,qC,Bool.true_and,aQ,cond_false]at hw av;simp only[cond_true,I7,hw,aC,RN af av,aA]
    |false=>
     simp only[aC,qC,Bool.true_and,Bool.not_false,cond_true]at hw av ah;simp only[cond_true,cond_false,I7,aC,e5,hw,av];rw[aM,aM]at ah;have vg:rl ops s.1 j d=true:=by simpa[aC]using za
     rw[ah.1.1,ah.1.2,ah.2,vg];rfl
  .cases cm
theorem OZ{aD:Fr}(cm:pV m=true)(av:∃N,∀n,N<=n->cV E f V (gR E n) (dc m) (bV m)=some aD)(k:kk E f V Q (vo m aD)):kk E f V Q m:=by
 cases m with
 |gv c F=>cases cm
 |bad=>cases cm
 |op id ops draw ks j s=>
  obtain⟨N,eL⟩:=av;refine kk.E4 ⟨N,λn ao=>?_⟩ k;have av:=eL n ao;simp only[pV]at cm;simp only[dc,bV]at av;unfold qn
  split at cm
  .rename_i o an;simp only[an]at av;simp only[aM]at cm;obtain⟨hw,ah⟩:=cm;have hw:=Gh hw;simp only[an];cases draw with
   |false=>simp only[cond_false,hw,av,aA]
   |true=>
    simp only[aQ,Bool.false_or]at ah;simp only[cond_true,ah,hw,av,aA]
  .cases cm
theorem akT{aD:Fr}(cm:pV m=true)(av:cV E f V lO (dc m) (bV m)=some aD)(k:kk E f V Q (vo m aD)):kk E f V Q m:=
 OZ cm ⟨0,λ_ _=>An Gj av⟩ k
structure c3(E:Env)(f:Nat)(V:List Nat)(Q:dU->Fr->Prop)(m:cL):Prop where
 out:kk E f V Q m
theorem runK(n:Nat)(m:cL)(h:c3 E f V Q (runM E f V n m)):c3 E f V Q m:=⟨T3 n m h.out⟩
end
end Go.aS
