/- An interpreter of function bodies, sound. No conditions. -/
import Derived.Test.YtmiedlcblpiemaaDoorOwn23
set_option linter.all false
namespace Go.Own
open D
section
variable {E:Env} {f:Nat} {V:List Nat} {Q:Ex->Fr->Prop} {m:Mc} {α ρ:Type}
def cX (o:Oper):Operand:=(Aj7 o.op).getD (.const undef)
def Aux (E:Env) (F:Fr) (o:Oper):List D:=match opd E F (cX o) with
 | some (fn _ cs)=>cs
 | _=>[]
def cA (E:Env) (F:Fr) (o:Oper):List Arg:=argsOf (Al0 o.op) (Aux E F o).length
def cMs (E:Env) (g:Nat) (F:Fr) (A:List Arg):List (Option D):=match passMoves E g 0 F A with
 | some (ms,_)=>ms
 | none=>[]
def cL (E:Env) (g:Nat) (F:Fr) (x:Operand) (A:List Arg):Option (Nat×Path):=(lentFrom E g F x 0 A).getD none
def cLd (F:Fr) (l:Option (Nat×Path)):Option D:=match holeC F l with
 | some (d,_)=>d
 | none=>none
structure Cl where
 x:Operand
 caps:List D
 agl:List Arg
 ms:List (Option D)
 f1:Fr
 l:Option (Nat×Path)
 ld:Option D
 f2:Fr
def clOf (E:Env) (g:Nat) (F:Fr) (o:Oper):Cl:=
 {x:=cX o,caps:=Aux E F o,agl:=cA E F o,ms:=cMs E g F (cA E F o),f1:=pmF E g F (cA E F o),l:=cL E g (pmF E g F (cA E F o)) (cX o) (cA E F o),
  ld:=cLd (pmF E g F (cA E F o)) (cL E g (pmF E g F (cA E F o)) (cX o) (cA E F o)),f2:=hoF (pmF E g F (cA E F o)) (cL E g (pmF E g F (cA E F o)) (cX o) (cA E F o)) }
def fnIs (g:Nat):Option D->Bool
 | some (fn g' _)=>Nat.beq g' g
 | _=>false
def clOK (E:Env) (g:Nat) (F:Fr) (o:Oper) (outs:List D):Bool:=
 (Aj7 o.op).isSome&&fnIs g (opd E F (cX o))&&(passMoves E g 0 F (cA E F o)).isSome&&(lentFrom E g (clOf E g F o).f1 (cX o) 0 (cA E F o)).isSome&&(holeC (clOf E g F o).f1 (clOf E g F o).l).isSome&&(giveBack (clOf E g F o).f1 (clOf E g F o).l outs).isSome
theorem Aop {g:Nat} {ds outs:List D} {r r':D} (hok:opM m=true) (hc:clOK E g (mS m) (mO m) outs=true)
  (hr:passRest E g (clOf E g (mS m) (mO m)).f1 (clOf E g (mS m) (mO m)).f2 (clOf E g (mS m) (mO m)).x (clOf E g (mS m) (mO m)).ld 0 (clOf E g (mS m) (mO m)).agl (clOf E g (mS m) (mO m)).ms=some ds) (hret:Ret E g ds r outs)
  (hf:(if r.flatR&&outs.all flat then some (clOf E g (mS m) (mO m)).f1 else frzAll (clOf E g (mS m) (mO m)).f1 (snapSrcs E g (clOf E g (mS m) (mO m)).f1 (clOf E g (mS m) (mO m)).x 0 (clOf E g (mS m) (mO m)).agl))=some (clOf E g (mS m) (mO m)).f1)
  (hcold:coldD (E.eager f ((mO m).dst.getD 0)) r=some r')
  (k:Mh E f V Q (mSet m (fin (gbF (clOf E g (mS m) (mO m)).f1 (clOf E g (mS m) (mO m)).l outs) (mO m).dst r'))):Mh E f V Q m:=by
 obtain ⟨N,hN⟩:=hret;refine ⟨m_op' hok ⟨N,fun n hn=>?_⟩ k.out⟩;generalize mS m=F at *;generalize mO m=o at *;simp only [clOK,Bool.and_eq_true] at hc;obtain ⟨⟨⟨⟨⟨hc,hfn⟩,hm⟩,hl⟩,hh⟩,hg⟩:=hc;obtain ⟨x,hx⟩:=Option.isSome_iff_exists.1 hc;obtain ⟨⟨ms,F1⟩,hm⟩:=Option.isSome_iff_exists.1 hm;obtain ⟨l,hl⟩:=Option.isSome_iff_exists.1 hl;obtain ⟨⟨ld,F2⟩,hh⟩:=Option.isSome_iff_exists.1 hh;obtain ⟨F4,hg⟩:=Option.isSome_iff_exists.1 hg;have ex:cX o=x:=by unfold cX;rw [hx];rfl
 have ef:(clOf E g F o).f1=F1:=by simp only [clOf,pmF,hm]
 have em:(clOf E g F o).ms=ms:=by simp only [clOf,cMs,hm]
 have el:(clOf E g F o).l=l:=by
  have:(clOf E g F o).l=cL E g (clOf E g F o).f1 (cX o) (cA E F o):=rfl;rw [this];simp only [cL,hl];rfl
 have eh:(clOf E g F o).ld=ld:=by
  have:(clOf E g F o).ld=cLd (clOf E g F o).f1 (clOf E g F o).l:=rfl;rw [this];simp only [cLd,hh]
 have e2:(clOf E g F o).f2=F2:=by
  have:(clOf E g F o).f2=hoF (clOf E g F o).f1 (clOf E g F o).l:=rfl;rw [this];simp only [hoF,hh]
 have egb:gbF (clOf E g F o).f1 (clOf E g F o).l outs=F4:=by simp only [gbF,hg];rfl
 obtain ⟨caps,hfn⟩:∃ caps,opd E F (cX o)=some (fn g caps):=by
  unfold fnIs at hfn
  split at hfn
  ·rename_i g' cs h;rw [Nat.eq_of_beq_eq_true hfn] at h;exact ⟨cs,h⟩
  ·cases hfn
 have ea:(clOf E g F o).agl=argsOf (Al0 o.op) caps.length:=by simp only [clOf,cA,Aux,hfn]
 have eX:(clOf E g F o).x=x:=ex;rw [egb];rw [ef,e2,eX,eh,em,ea] at hr;rw [ef,eX,ea] at hf;have ea':cA E F o=argsOf (Al0 o.op) caps.length:=ea;rw [ea'] at hm;rw [ef,ex,ea'] at hl;rw [ef,el] at hh hg;rw [ex] at hfn;unfold opC;unfold Aj7 at hx
 split at hx
 ·rename_i c hop
  split at hx
  ·rename_i y hcl;simp only [zJ] at hx;subst hx;simp only [hop,hcl,hfn];simp only [Al0,hop] at hm hl hr hf;have:callC E (Ab6 E n) F g y (argsOf c.args.toList caps.length)=some (r,F4):=by
    unfold callC;simp only [hm,hl,hh,hr,hN n hn,hf,hg,Option.map_some]
   simp only [this,Option.bind_some,hcold,Option.map_some]
  ·cases hx
 ·cases hx
def mCl (E:Env) (g:Nat) (m:Mc) (outs:List D) (r:D):Mc:=mSet m (fin (gbF (clOf E g (mS m) (mO m)).f1 (clOf E g (mS m) (mO m)).l outs) (mO m).dst r)
def clR (E:Env) (g:Nat) (m:Mc):Option (List D):=passRest E g (clOf E g (mS m) (mO m)).f1 (clOf E g (mS m) (mO m)).f2 (clOf E g (mS m) (mO m)).x (clOf E g (mS m) (mO m)).ld 0 (clOf E g (mS m) (mO m)).agl (clOf E g (mS m) (mO m)).ms
def clF (E:Env) (g:Nat) (m:Mc) (r:D) (outs:List D):Option Fr:=if r.flatR&&outs.all flat then some (clOf E g (mS m) (mO m)).f1 else frzAll (clOf E g (mS m) (mO m)).f1 (snapSrcs E g (clOf E g (mS m) (mO m)).f1 (clOf E g (mS m) (mO m)).x 0 (clOf E g (mS m) (mO m)).agl)
def clE (E:Env) (f:Nat) (m:Mc):Bool:=E.eager f ((mO m).dst.getD 0)
theorem Ab0 {g:Nat} {r:D} {outs:List D} (h1:r.flat=true) (h2:outs.all flat=true:=by kernel_rfl):clF E g m r outs=some (clOf E g (mS m) (mO m)).f1:=by
 unfold clF;rw [flatR_of h1,h2];rfl
theorem Ban {g:Nat} {r:D} {outs:List D} (h1:r.flatR=true) (h2:outs.all flat=true:=by kernel_rfl):clF E g m r outs=some (clOf E g (mS m) (mO m)).f1:=by
 unfold clF;rw [h1,h2];rfl
theorem Ai4 {g:Nat} {r d:D} (h1:r.flat=true) (h2:d.flat=true):clF E g m r [d]=some (clOf E g (mS m) (mO m)).f1:=Ab0 h1 (by simp only [List.all_cons,h2,List.all_nil,Bool.and_self])
theorem Bcm {g:Nat} {r:D} {outs:List D} (h:frzAll (clOf E g (mS m) (mO m)).f1 (snapSrcs E g (clOf E g (mS m) (mO m)).f1 (clOf E g (mS m) (mO m)).x 0 (clOf E g (mS m) (mO m)).agl)=some (clOf E g (mS m) (mO m)).f1:=by kernel_rfl):clF E g m r outs=some (clOf E g (mS m) (mO m)).f1:=by
 unfold clF;exact Bd4 h
theorem mCal (n:Nat) {g:Nat} {P:ρ->Prop} {R:ρ->Prop} {res:ρ->D} {outs:ρ->List D} {ds:List D} (h:∃ r,P r/\R r) (hP:∀ r,P r->Ret E g ds (res r) (outs r))
  (k:∀ r,P r->R r->Mh E f V Q (mCl E g (runM E f V n m) (outs r) (res r)))
  (K:∀ r,(opM (runM E f V n m),clOK E g (mS (runM E f V n m)) (mO (runM E f V n m)) (outs r),clE E f (runM E f V n m))=(true,true,false):=by intro;kernel_rfl)
  (hr:clR E g (runM E f V n m)=some ds:=by kernel_rfl)
  (hf:∀ r,clF E g (runM E f V n m) (res r) (outs r)=some (clOf E g (mS (runM E f V n m)) (mO (runM E f V n m))).f1:=by intro;kernel_rfl):Mh E f V Q m:=by
 obtain ⟨r,h1,h2⟩:=h;have K:=K r;simp only [Prod.mk.injEq] at K;refine runK n m (Aop K.1 K.2.1 hr (hP r h1) (hf r) ?_ (k r h1 h2));have:=K.2.2;unfold clE at this;rw [this];rfl
abbrev dT {p:Prop} [Decidable p]:decide p=true->p:=of_decide_eq_true
abbrev dF {p:Prop} [Decidable p]:decide p=false->¬ p:=of_decide_eq_false
theorem Azg (n:Nat) {g:Nat} {P:ρ->Prop} {R:ρ->Prop} {res res':ρ->D} {outs:ρ->List D} {ds:List D} (h:∃ r,P r/\R r) (hP:∀ r,P r->Ret E g ds (res r) (outs r)) (hc:∀ r,coldD true (res r)=some (res' r))
  (k:∀ r,P r->R r->Mh E f V Q (mCl E g (runM E f V n m) (outs r) (res' r)))
  (K:∀ r,(opM (runM E f V n m),clOK E g (mS (runM E f V n m)) (mO (runM E f V n m)) (outs r),clE E f (runM E f V n m))=(true,true,true):=by intro;kernel_rfl)
  (hr:clR E g (runM E f V n m)=some ds:=by kernel_rfl)
  (hf:∀ r,clF E g (runM E f V n m) (res r) (outs r)=some (clOf E g (mS (runM E f V n m)) (mO (runM E f V n m))).f1:=by intro;kernel_rfl):Mh E f V Q m:=by
 obtain ⟨r,h1,h2⟩:=h;have K:=K r;simp only [Prod.mk.injEq] at K;refine runK n m (Aop K.1 K.2.1 hr (hP r h1) (hf r) ?_ (k r h1 h2));have:=K.2.2;unfold clE at this;rw [this];exact hc r
theorem Ac2 (n:Nat) {g:Nat} {P A B:Bool->Prop} {ds:List D} (h:∃ r,P r/\(if r=true then A r else B r)) (hP:∀ r,P r->Ret E g ds (lit (.bool r)) [])
  (k1:P true->A true->Mh E f V Q (mCl E g (runM E f V n m) [] (lit (.bool true)))) (k2:P false->B false->Mh E f V Q (mCl E g (runM E f V n m) [] (lit (.bool false))))
  (K:(opM (runM E f V n m),clOK E g (mS (runM E f V n m)) (mO (runM E f V n m)) [])=(true,true):=by kernel_rfl)
  (hr:clR E g (runM E f V n m)=some ds:=by kernel_rfl):Mh E f V Q m:=by
 obtain ⟨r,h1,h2⟩:=h;simp only [Prod.mk.injEq] at K;have hcold:∀ b x,coldD b (lit (.bool x))=some (lit (.bool x)):=by intro b x;cases b<;>rfl
 cases r with
 | true=>exact runK n m (Aop K.1 K.2 hr (hP _ h1) (Ab0 rfl rfl) (hcold _ _) (k1 h1 (by simpa using h2)))
 | false=>exact runK n m (Aop K.1 K.2 hr (hP _ h1) (Ab0 rfl rfl) (hcold _ _) (k2 h1 (by simpa using h2)))
theorem Azh (n:Nat) {g:Nat} {ds outs:List D} {r:D} (hP:Ret E g ds r outs)
  (k:Mh E f V Q (mCl E g (runM E f V n m) outs r))
  (K:(opM (runM E f V n m),clOK E g (mS (runM E f V n m)) (mO (runM E f V n m)) outs,clE E f (runM E f V n m))=(true,true,false):=by kernel_rfl)
  (hr:clR E g (runM E f V n m)=some ds:=by kernel_rfl)
  (hf:clF E g (runM E f V n m) r outs=some (clOf E g (mS (runM E f V n m)) (mO (runM E f V n m))).f1:=by kernel_rfl):Mh E f V Q m:=
 mCal (ρ:=Unit) (P:=fun _=>True) (R:=fun _=>True) (res:=fun _=>r) (outs:=fun _=>outs) n ⟨(),trivial,trivial⟩ (fun _ _=>hP) (fun _ _ _=>k) (fun _=>K) hr (fun _=>hf)
def loR (E:Env) (g:Nat) (m:Mc):Option (List D):=passRest E g (mF m) (mF m) (cX (mO m)) none 0 (cA E (mF m) (mO m)) ((cA E (mF m) (mO m)).map fun _=>none)
def loOK (E:Env) (g:Nat) (m:Mc):Bool:=looM m&&(Aj7 (mO m).op).isSome&&fnIs g (opd E (mF m) (cX (mO m)))&&Ajo E g (cA E (mF m) (mO m)).length
def loF (E:Env) (g:Nat) (m:Mc) (r:D):Bool:=r.flatR || (snapSrcs E g (mF m) (cX (mO m)) 0 (cA E (mF m) (mO m))).all (immD (mF m))
theorem Aq2 {g:Nat} {r:D} (h1:r.flat=true):loF E g m r=true:=by unfold loF;rw [flatR_of h1];rfl
theorem Aya {g:Nat} {ds:List D} {r r':D} (hok:loOK E g m=true) (hr:loR E g m=some ds) (hret:Ret E g ds r []) (hf:loF E g m r=true) (hcold:coldD (E.eager f ((mO m).dst.getD 0)) r=some r') (k:Mh E f V Q (mLoo m r')):Mh E f V Q m:=by
 obtain ⟨N,hN⟩:=hret;cases m with
 | pt c F=>simp [loOK,looM] at hok
 | bad=>simp [loOK,looM] at hok
 | op id ops draw ks j s=>
  have k:=k.out;simp only [mLoo] at k;cases hsf:Aeb ops s.1 j r' with
  | false=>rw [hsf] at k;exact k.elim
  | true=>
  rw [hsf] at k;refine ⟨MhD.op_step ⟨N,fun n hn=>?_⟩ k⟩;simp only [loOK,Bool.and_eq_true] at hok;obtain ⟨⟨⟨hlo,hc⟩,hfn⟩,hsn⟩:=hok;simp only [looM] at hlo;simp only [mO,mF,loR,loF] at *;unfold Agk
  split at hlo
  ·rename_i o ho;simp only [ho] at hc hfn hsn hr hf hcold;simp only [Bool.and_eq_true,Bool.not_eq_true'] at hlo;obtain ⟨⟨⟨hdr,ha⟩,hw⟩,⟨hs1,hs2⟩,hs3⟩:=hlo;have hw:=Ake hw;subst hdr;simp only [cond_true,ha,cond_false,frd,Bool.not_false,Bool.and_true] at hw hs1 hc hfn hsn hr hf ⊢;obtain ⟨x,hx⟩:=Option.isSome_iff_exists.1 hc;have ex:cX o=x:=by unfold cX;rw [hx];rfl
   obtain ⟨caps,hfn⟩:∃ caps,opd E (Aax (Aa8 ops s.1 j) s.2) (cX o)=some (fn g caps):=by
    unfold fnIs at hfn
    split at hfn
    ·rename_i g' cs h;rw [Nat.eq_of_beq_eq_true hfn] at h;exact ⟨cs,h⟩
    ·cases hfn
   have ea:cA E (Aax (Aa8 ops s.1 j) s.2) o=argsOf (Al0 o.op) caps.length:=by simp only [cA,Aux,hfn]
   rw [ea] at hsn hr hf;rw [ex] at hfn hr hf;have hv:valC E f (Ab6 E n) (Aax (Aa8 ops s.1 j) s.2) o=some r':=by
    unfold valC;unfold Aj7 at hx
    split at hx
    ·rename_i c hop
     split at hx
     ·rename_i y hcl;simp only [zJ] at hx;subst hx;simp only [hop,hcl,hfn];simp only [Al0,hop] at hsn hr hf;rw [if_pos hsn];simp only [hr,hN n hn,if_pos hf,hcold]
     ·cases hx
    ·cases hx
   simp only [ho,Aap,hw,hv,hs1,hs2,hs3,hsf,Bool.and_self,cond_true]
  ·cases hlo
theorem Bfb {g:Nat} {r:D} (h:(snapSrcs E g (mF m) (cX (mO m)) 0 (cA E (mF m) (mO m))).all (immD (mF m))=true:=by kernel_rfl):loF E g m r=true:=by unfold loF;rw [h,Bool.or_true]
theorem mLo (n:Nat) {g:Nat} {P:ρ->Prop} {R:ρ->Prop} {res:ρ->D} {ds:List D} (h:∃ r,P r/\R r) (hP:∀ r,P r->Ret E g ds (res r) [])
  (k:∀ r,P r->R r->Mh E f V Q (mLoo (runM E f V n m) (res r)))
  (K:(loOK E g (runM E f V n m),clE E f (runM E f V n m))=(true,false):=by kernel_rfl)
  (hr:loR E g (runM E f V n m)=some ds:=by kernel_rfl)
  (hf:∀ r,loF E g (runM E f V n m) (res r)=true:=by intro;kernel_rfl):Mh E f V Q m:=by
 obtain ⟨r,h1,h2⟩:=h;simp only [Prod.mk.injEq] at K;refine runK n m (Aya K.1 hr (hP r h1) (hf r) ?_ (k r h1 h2));have:=K.2;unfold clE at this;rw [this];rfl
theorem mLoE (n:Nat) {g:Nat} {P:ρ->Prop} {R:ρ->Prop} {res res':ρ->D} {ds:List D} (h:∃ r,P r/\R r) (hP:∀ r,P r->Ret E g ds (res r) []) (hc:∀ r,coldD true (res r)=some (res' r))
  (k:∀ r,P r->R r->Mh E f V Q (mLoo (runM E f V n m) (res' r)))
  (K:(loOK E g (runM E f V n m),clE E f (runM E f V n m))=(true,true):=by kernel_rfl)
  (hr:loR E g (runM E f V n m)=some ds:=by kernel_rfl)
  (hf:∀ r,loF E g (runM E f V n m) (res r)=true:=by intro;kernel_rfl):Mh E f V Q m:=by
 obtain ⟨r,h1,h2⟩:=h;simp only [Prod.mk.injEq] at K;refine runK n m (Aya K.1 hr (hP r h1) (hf r) ?_ (k r h1 h2));have:=K.2;unfold clE at this;rw [this];exact hc r
theorem Anu {g i:Nat} {F F2:Fr} {x:Operand} {l:Option D} {A:List Arg} {ms:List (Option D)} (hA:A=[]:=by kernel_rfl) (hm:ms=[]:=by kernel_rfl):passRest E g F F2 x l i A ms=some []:=by rw [hA,hm];rfl
theorem Afz {g i:Nat} {F F2:Fr} {x:Operand} {l:Option D} {A:List Arg} {ms:List (Option D)} {d0 d:D} {ds:List D}
  (hs:snapD F2 d0=some d) (h:passRest E g F F2 x l (i+1) A.tail ms.tail=some ds)
  (K:(E.mode g i,argD E F x (A.headD (.cap 0)),A.isEmpty,ms.isEmpty,(ms.headD none).isSome)=(Mode.snap,some d0,false,false,false):=by kernel_rfl):passRest E g F F2 x l i A ms=some (d::ds):=by
 simp only [Prod.mk.injEq] at K;obtain ⟨h1,h2,h3,h4,h5⟩:=K;cases A with
 | nil=>cases h3
 | cons a A=>
  cases ms with
  | nil=>cases h4
  | cons q ms=>
   simp only [List.headD_cons,List.tail_cons] at *;cases q with
   | some _=>cases h5
   | none=>exact Bbo h1 h2 hs h
theorem pr_k {g i:Nat} {F F2:Fr} {x:Operand} {l:Option D} {A:List Arg} {ms:List (Option D)} {d:D} {ds:List D}
  (h:passRest E g F F2 x l (i+1) A.tail ms.tail=some ds)
  (K:(E.mode g i,(argD E F x (A.headD (.cap 0))).bind (snapD F2),A.isEmpty,ms.isEmpty,(ms.headD none).isSome)=(Mode.snap,some d,false,false,false):=by kernel_rfl):passRest E g F F2 x l i A ms=some (d::ds):=by
 simp only [Prod.mk.injEq] at K;obtain ⟨h1,h2,h3,h4,h5⟩:=K;obtain ⟨d0,h0,hs⟩:=Option.bind_eq_some_iff.1 h2;exact Afz hs h (by rw [h1,h0,h3,h4,h5])
def apX (E:Env) (F:Fr) (o:Oper):Option (List (List D)×List (List D)×Fr×Nat×Nat):=match o.op with
 | .call c=>match c.callee,c.args.toList,c.argTypes.toList with
  | .builtin .append,[x,y],[t,u]=>match rowT E.P u,sliceT E.P t,takeOp E F x with
   | true,some et,some (own es,F1)=>match newElems E F1 y,zeroT E.P et with
    | some (ys,F2),some z=>bif Nat.beq z.cells.length (sizeT E.P et)&&Nat.blt 0 (sizeT E.P et)&&Nat.blt 0 (bytesT E.P et) then some (es,ys,F2,bytesT E.P et,sizeT E.P et) else none
    | _,_=>none
   | _,_,_=>none
  | _,_,_=>none
 | _=>none
def apF:Option (List (List D)×List (List D)×Fr×Nat×Nat)->Fr
 | some (_,_,F,_,_)=>F
 | none=>[]
def apR:Option (List (List D)×List (List D)×Fr×Nat×Nat)->Option (List (List D)×List (List D)×Nat)
 | some (a,b,_,c,_)=>some (a,b,c)
 | none=>none
def apW:Option (List (List D)×List (List D)×Fr×Nat×Nat)->Nat
 | some (_,_,_,_,k)=>k
 | none=>0
theorem Bfy {F:Fr} {o:Oper} {e:Enc α} {l m:List α} {c:Nat} (hB:apR (apX E F o)=some (l.map e,m.map e,c)) (hk:∀ x,(e x).length=apW (apX E F o)) (hl:(l.length+m.length)*c<=140737488355328):opC E f V Acd F o=some (fin (apF (apX E F o)) o.dst (.own ((l++m).map e))):=by
 cases hx:apX E F o with
 | none=>rw [hx] at hB;cases hB
 | some q=>
  obtain ⟨es,ys,F2,c',k⟩:=q;rw [hx] at hB hk;simp only [apR,zJ,Prod.mk.injEq] at hB;obtain ⟨rfl,rfl,rfl⟩:=hB;simp only [apW] at hk;simp only [apF];unfold apX at hx
  split at hx
  ·rename_i cc ho
   split at hx
   ·rename_i x y t u hc ha ht
    split at hx
    ·rename_i et es F1 hr hs htk
     split at hx
     ·rename_i ys F3 z hn hz;cases hb:(Nat.beq z.cells.length (sizeT E.P et)&&Nat.blt 0 (sizeT E.P et)&&Nat.blt 0 (bytesT E.P et)) with
      | false=>rw [hb] at hx;cases hx
      | true=>
       rw [hb] at hx;simp only [cond_true,zJ,Prod.mk.injEq] at hx;obtain ⟨rfl,rfl,rfl,rfl,rfl⟩:=hx;simp only [Bool.and_eq_true] at hb;obtain ⟨cal,ags,tys⟩:=cc;simp only at hc ha ht;obtain ⟨ags⟩:=ags;obtain ⟨tys⟩:=tys;simp only at ha ht;subst ha;subst ht;subst hc;exact Aib ho hr hs hz (Nat.eq_of_beq_eq_true hb.1.1) htk hn rfl hb.1.2 rfl hb.2 hk hl
     ·cases hx
    ·cases hx
   ·cases hx
  ·cases hx
theorem mApp (n:Nat) (e:Enc α) (l x:List α) {c N1 N2:Nat} {R:Prop} (h:(N1+N2)*c<=140737488355328/\R)
  (k:R->Mh E f V Q (mSet (runM E f V n m) (fin (apF (apX E (mS (runM E f V n m)) (mO (runM E f V n m)))) (mO (runM E f V n m)).dst (.own ((l++x).map e)))))
  (K:(opM (runM E f V n m),apR (apX E (mS (runM E f V n m)) (mO (runM E f V n m))),l.length,x.length)=(true,some (l.map e,x.map e,c),N1,N2):=by kernel_rfl)
  (hk:∀ x,(e x).length=apW (apX E (mS (runM E f V n m)) (mO (runM E f V n m))):=by intro;kernel_rfl):Mh E f V Q m:=by
 simp only [Prod.mk.injEq] at K;obtain ⟨h1,h2,rfl,rfl⟩:=K;exact mOp n (Bfy h2 hk h.1) (k h.2) h1
def soX (E:Env) (F:Fr) (o:Oper):Option (D×Fr×Nat×Path×Nat×Nat×List (List D)×Nat):=match o.op with
 | .store t x y=>match takeOp E F y with
  | some (d,F1)=>match opd E F1 x with
   | some (place s ps n c)=>match getAt F1 s ps with
    | some (own es)=>bif (E.P.info? t).isSome&&Nat.beq d.cells.length (sizeT E.P t) then some (d,F1,s,ps,n,c,es,sizeT E.P t) else none
    | _=>none
   | _=>none
  | none=>none
 | _=>none
def soR:Option (D×Fr×Nat×Path×Nat×Nat×List (List D)×Nat)->Option (List (List D)×Nat)
 | some (_,_,_,_,n,_,es,_)=>some (es,n)
 | none=>none
def soC (cs:List D):Option (D×Fr×Nat×Path×Nat×Nat×List (List D)×Nat)->Option (List D)
 | some (d,_,_,_,_,c,_,k)=>bif Nat.ble (c+k) cs.length then some (cs.take c++d.cells++cs.drop (c+k)) else none
 | none=>none
def soF (cs:List D) (es:List (List D)):Option (D×Fr×Nat×Path×Nat×Nat×List (List D)×Nat)->Option Fr
 | some (_,F1,s,ps,n,c,_,k)=>(setAt F1 s ps (.own es)).map fun F2=>if ((cs.drop c).take k).any node1 then killF (deadCells s ps n c k) F2 else F2
 | none=>none
theorem Bi8 {F F':Fr} {o:Oper} {e:Enc α} {l:List α} {n:Nat} {a b:α} (hB:soR (soX E F o)=some (l.map e,n)) (h:l[n]? = some a) (hb:soC (e a) (soX E F o)=some (e b)) (hF:soF (e a) ((l.set n b).map e) (soX E F o)=some F'):opC E f V Acd F o=some (fin F' o.dst (.tup [])):=by
 cases hx:soX E F o with
 | none=>rw [hx] at hB;cases hB
 | some q=>
  obtain ⟨d,F1,s,ps,n',c,es,k⟩:=q;rw [hx] at hB hb hF;simp only [soR,zJ,Prod.mk.injEq] at hB;obtain ⟨rfl,rfl⟩:=hB;simp only [soC] at hb;simp only [soF,Option.map_eq_some_iff] at hF;obtain ⟨F2,hF2,rfl⟩:=hF;unfold soX at hx
  split at hx
  ·rename_i t x y ho
   split at hx
   ·rename_i d' F1' hy
    split at hx
    ·rename_i s' ps' n2 c' hxx
     split at hx
     ·rename_i es hg;cases hq:((E.P.info? t).isSome&&Nat.beq d'.cells.length (sizeT E.P t)) with
      | false=>rw [hq] at hx;cases hx
      | true=>
       rw [hq] at hx;simp only [cond_true,zJ,Prod.mk.injEq] at hx;obtain ⟨rfl,rfl,rfl,rfl,rfl,rfl,rfl,rfl⟩:=hx;simp only [Bool.and_eq_true] at hq;cases hle:Nat.ble (c'+sizeT E.P t) (e a).length with
       | false=>rw [hle] at hb;cases hb
       | true=>
        rw [hle] at hb;simp only [cond_true,zJ] at hb;exact Awl ho hy hxx hg h hq.1 rfl (Nat.eq_of_beq_eq_true hq.2) hle hb hF2
     ·cases hx
    ·cases hx
   ·cases hx
  ·cases hx
theorem mSto (n:Nat) (e:Enc α) {l:List α} {i:Int} {a:α} (b:α) (h:lget l i=some a)
  (k:Mh E f V Q (mSet (runM E f V n m) (fin ((soF (e a) ((lset l i b).map e) (soX E (mS (runM E f V n m)) (mO (runM E f V n m)))).getD []) (mO (runM E f V n m)).dst (.tup []))))
  (K:(opM (runM E f V n m),soR (soX E (mS (runM E f V n m)) (mO (runM E f V n m))),soC (e a) (soX E (mS (runM E f V n m)) (mO (runM E f V n m))),(soF (e a) ((lset l i b).map e) (soX E (mS (runM E f V n m)) (mO (runM E f V n m)))).isSome)=(true,some (l.map e,i.toNat),some (e b),true):=by kernel_rfl):Mh E f V Q m:=by
 simp only [Prod.mk.injEq] at K;obtain ⟨h1,h2,h3,h4⟩:=K;obtain ⟨F',hF⟩:=Option.isSome_iff_exists.1 h4;rw [hF] at k;exact mOp n (Bi8 h2 (Adq h).2 h3 hF) k h1
end
end Go.Own
