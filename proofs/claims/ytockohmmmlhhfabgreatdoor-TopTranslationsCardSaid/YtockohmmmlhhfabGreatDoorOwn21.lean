/- An interpreter of function bodies, sound. No conditions. -/
import Derived.KernelRfl
import Derived.Test.YtockohmmmlhhfabGreatDoorOwn16
import Derived.Test.YtockohmmmlhhfabGreatDoorOwn17
set_option linter.all false
namespace Go.Own
open D
inductive Mc
 | pt (c:Code×List Kt) (F:Fr)
 | op (id:Nat) (ops:Array Oper) (draw:Bool) (ks:List Kt) (j:Nat) (s:St)
 | bad
def Axw (ops:Array Oper) (d:Bool):Bool:=!d || (Aeu ops&&ops.toList.all (fun o=>match o.op with | .select ..=>false | _=>true))
def Amo : Oper := { op := .move (.const undef), dst := none, type := 0, after := #[], guard := none, pos := "" }
section
variable {E:Env} {f:Nat} {V:List Nat} {Q:Ex->Fr->Prop} {m:Mc}
def Ai2 (E:Env) (f:Nat) (V:List Nat):Mc->Mc
 | .pt (.region id ops draw,ks) F=>bif Axw ops draw then .op id ops draw ks 0 ([],bif draw then Abc F ops.toList else F) else .bad
 | .pt (.skip,ks) F=>match Aee ks with
  | some c=>.pt c F
  | none=>.bad
 | .pt (.cond y a b,ks) F=>match opd E F y with
  | some (lit (.bool t))=>bif t then .pt (dn a ks) (trim E f V 1 (Ahe y) F) else .pt (dn b ks) (trim E f V 2 (Ahe y) F)
  | _=>.bad
 | .pt (.exit id,ks) F=>match Ahw id ks with
  | some ks'=>match Aee ks' with
   | some c=>.pt c (trim E f V 3 id F)
   | none=>.bad
  | none=>.bad
 | .pt (.loop b,ks) F=>.pt (dn b (.loop b::ks)) F
 | .pt _ _=>.bad
 | .op id ops draw ks j s=>match ops[j]? with
  | none=>match Aee ks with
   | some c=>.pt c (trim E f V 0 id (norm V s.2))
   | none=>.bad
  | some _=>match Afw E f V Acf ops draw j s with
   | some s'=>.op id ops draw ks (j+1) s'
   | none=>.bad
 | .bad=>.bad
def runM (E:Env) (f:Nat) (V:List Nat):Nat->Mc->Mc
 | 0,m=>m
 | n+1,m=>runM E f V n (Ai2 E f V m)
def MhD (E:Env) (f:Nat) (V:List Nat) (Q:Ex->Fr->Prop):Mc->Prop
 | .pt c F=>AtC E f V c F Q
 | .op id ops draw ks j s=>∃ F1,(∃ N,∀ n,N<=n->Ajn E f V (Ab8 E n) ops draw ((List.range ops.size).drop j) s=some F1)/\kTo E f V ks Q .normal (trim E f V 0 id (norm V F1))
 | .bad=>False
theorem MhD.op_step {id:Nat} {ops:Array Oper} {draw:Bool} {ks:List Kt} {j:Nat} {s s':St} (hs:∃ N,∀ n,N<=n->Afw E f V (Ab8 E n) ops draw j s=some s') (k:MhD E f V Q (.op id ops draw ks (j+1) s')):MhD E f V Q (.op id ops draw ks j s):=by
 obtain ⟨N,hN⟩:=hs;obtain ⟨F1,⟨M,hM⟩,k⟩:=k;have hj:j<ops.size:=by
  have:=hN N (Nat.le_refl N);unfold Afw at this;cases ho:ops[j]? with
  | none=>simp [ho] at this
  | some o=>exact (Array.getElem?_eq_some_iff.1 ho).1
 refine ⟨F1,⟨max N M,fun n hn=>?_⟩,k⟩;rw [Axd hj,Azs (hN n (by omega))];exact hM n (by omega)
theorem Ap6:∀ (m:Mc),MhD E f V Q (Ai2 E f V m)->MhD E f V Q m
 | .bad,h=>h
 | .op id ops draw ks j s,h=>by
  simp only [Ai2] at h
  split at h
  ·rename_i hj
   split at h
   ·rename_i c hc;refine ⟨s.2,⟨0,fun n _=>?_⟩,Alg hc h⟩;have:ops.size<=j:=by simpa using hj
    rw [List.drop_eq_nil_iff.2 (by simpa using this)];simp only [Ajn,Abz,opsC,ite_self]
   ·exact h.elim
  ·split at h
   ·rename_i s' hs;exact MhD.op_step ⟨0,fun n _=>Ape Ajm hs⟩ h
   ·exact h.elim
 | .pt (c,ks) F,h=>by
  cases c with
  | region id ops draw=>
   simp only [Ai2] at h;cases hr:Axw ops draw with
   | false=>rw [hr] at h;exact h.elim
   | true=>
    rw [hr] at h;simp only [cond_true] at h;obtain ⟨F1,⟨N,hN⟩,k⟩:=h;refine ⟨_,_,⟨N,fun n hn=>?_⟩,k⟩;have:=hN n hn;simp only [List.drop_zero,Ajn] at this;simp only [Aae,regC];unfold Axw at hr;cases draw with
    | true=>
     simp only [Bool.not_true,Bool.false_or] at hr;simp only [if_true,cond_true] at this;simp only [if_true];rw [if_pos (by exact hr),this];rfl
    | false=>
     simp only [Bool.false_eq_true,if_false,cond_false] at this;simp only [Bool.false_eq_true,if_false,this,Option.map_some]
  | skip=>
   simp only [Ai2] at h
   split at h
   ·rename_i d hd;exact To.skip (Alg hd h)
   ·exact h.elim
  | cond y a b=>
   simp only [Ai2] at h
   split at h
   ·rename_i t ht;cases t with
    | true=>
     simp only [cond_true] at h;exact To.cond ht (fun _=>Aic a ks h) (fun h=>by cases h)
    | false=>
     simp only [cond_false] at h;exact To.cond ht (fun h=>by cases h) (fun _=>Aic b ks h)
   ·exact h.elim
  | exit id=>
   simp only [Ai2] at h
   split at h
   ·rename_i ks' hk
    split at h
    ·rename_i d hd;exact To.exit (Aii hk (Alg hd h))
    ·exact h.elim
   ·exact h.elim
  | loop b=>exact To.loop (Aic b (.loop b::ks) h)
  | _=>exact h.elim
theorem Awt:∀ (n:Nat) (m:Mc),MhD E f V Q (runM E f V n m)->MhD E f V Q m
 | 0,_,h=>h
 | n+1,m,h=>Ap6 m (Awt n _ h)
def mO:Mc->Oper
 | .op _ ops _ _ j _=>match ops[j]? with
  | some o=>o
  | none=>Amo
 | _=>Amo
def mF:Mc->Fr
 | .op _ ops draw _ j s=>frd draw ops j s
 | .pt _ F=>F
 | .bad=>[]
def mS:Mc->Fr
 | .op _ _ _ _ _ s=>s.2
 | .pt _ F=>F
 | .bad=>[]
def mVal:Mc->D->Mc
 | .op id ops draw ks j s,d=>bif draw&&(!Abk ops j&&!Ae4 ops s.1 j d) then .bad else .op id ops draw ks (j+1) (pts draw ops j s (match ops[j]? with | some o=>o | none=>Amo).dst d)
 | _,_=>.bad
def mSet:Mc->Fr->Mc
 | .op id ops draw ks j s,F=>.op id ops draw ks (j+1) (bif draw then [] else s.1,F)
 | _,_=>.bad
def mLoo:Mc->D->Mc
 | .op id ops draw ks j s,d=>bif Ae4 ops s.1 j d then .op id ops draw ks (j+1) ((j,(match ops[j]? with | some o=>o | none=>Amo).dst.toList,none)::s.1,set0 s.2 (match ops[j]? with | some o=>o | none=>Amo).dst d) else .bad
 | _,_=>.bad
def valM:Mc->Bool
 | .op _ ops draw _ j s=>match ops[j]? with
  | some o=>Awr o.op&&Akh (wantedD ops (frd draw ops j s) o)&&(bif draw&&!Abk ops j then Abi ops (frd draw ops j s) o&&Ade s.2 o&&Afm s.1 o else true)
  | none=>false
 | _=>false
def opM:Mc->Bool
 | .op _ ops draw _ j s=>match ops[j]? with
  | some o=>Akh (wantedD ops s.2 o)&&(!draw || Abk ops j)
  | none=>false
 | _=>false
def looM:Mc->Bool
 | .op _ ops draw _ j s=>match ops[j]? with
  | some o=>draw&&!Abk ops j&&Akh (wantedD ops (frd draw ops j s) o)&&(Abi ops (frd draw ops j s) o&&Ade s.2 o&&Afm s.1 o)
  | none=>false
 | _=>false
theorem Bh3 {d:D} (hok:valM m=true) (hv:valC E f Acf (mF m) (mO m)=some d) (k:MhD E f V Q (mVal m d)):MhD E f V Q m:=by
 cases m with
 | pt c F=>cases hok
 | bad=>cases hok
 | op id ops draw ks j s=>
  simp only [mVal] at k;cases hsf:(draw&&(!Abk ops j&&!Ae4 ops s.1 j d)) with
  | true=>rw [hsf] at k;exact k.elim
  | false=>
  rw [hsf] at k;refine MhD.op_step ⟨0,fun n _=>Ape Ajm ?_⟩ k;simp only [valM] at hok;simp only [mF,mO] at hv;unfold Afw
  split at hok
  ·rename_i o ho;simp only [ho] at hv;simp only [ho,Bool.and_eq_true] at hok ⊢;obtain ⟨⟨hp,hw⟩,hd⟩:=hok;have hw:=Ajh hw;cases draw with
   | false=>
    simp only [frd,Bool.false_and,cond_false] at hw hv;simp only [cond_false,pts,hw,Aqo hp hv,Option.map_some]
   | true=>
    cases ha:Abk ops j with
    | true=>
     simp only [ha,frd,Bool.true_and,Bool.not_true,cond_false] at hw hv;simp only [cond_true,pts,hw,ha,Aqo hp hv,Option.map_some]
    | false=>
     simp only [ha,frd,Bool.true_and,Bool.not_false,cond_true] at hw hv hd;simp only [cond_true,cond_false,pts,ha,Aak,hw,hv];rw [Bool.and_eq_true,Bool.and_eq_true] at hd;have hs4:Ae4 ops s.1 j d=true:=by simpa [ha] using hsf
     rw [hd.1.1,hd.1.2,hd.2,hs4];rfl
  ·cases hok
theorem m_op' {F':Fr} (hok:opM m=true) (hv:∃ N,∀ n,N<=n->opC E f V (Ab8 E n) (mS m) (mO m)=some F') (k:MhD E f V Q (mSet m F')):MhD E f V Q m:=by
 cases m with
 | pt c F=>cases hok
 | bad=>cases hok
 | op id ops draw ks j s=>
  obtain ⟨N,hN⟩:=hv;refine MhD.op_step ⟨N,fun n hn=>?_⟩ k;have hv:=hN n hn;simp only [opM] at hok;simp only [mS,mO] at hv;unfold Afw
  split at hok
  ·rename_i o ho;simp only [ho] at hv;simp only [Bool.and_eq_true] at hok;obtain ⟨hw,hd⟩:=hok;have hw:=Ajh hw;simp only [ho];cases draw with
   | false=>simp only [cond_false,hw,hv,Option.map_some]
   | true=>
    simp only [Bool.not_true,Bool.false_or] at hd;simp only [cond_true,hd,hw,hv,Option.map_some]
  ·cases hok
theorem m_op {F':Fr} (hok:opM m=true) (hv:opC E f V Acf (mS m) (mO m)=some F') (k:MhD E f V Q (mSet m F')):MhD E f V Q m:=
 m_op' hok ⟨0,fun _ _=>Akl Ajm hv⟩ k
structure Mh (E:Env) (f:Nat) (V:List Nat) (Q:Ex->Fr->Prop) (m:Mc):Prop where
 out:MhD E f V Q m
theorem runK (n:Nat) (m:Mc) (h:Mh E f V Q (runM E f V n m)):Mh E f V Q m:=⟨Awt n m h.out⟩
end
end Go.Own
