/- An interpreter of function bodies without memory, proved sound for the model. No conditions. -/
import Derived.Test.YteenpfaegjdkoaaOwn23
set_option linter.all false
namespace Go.Own
open D
section
variable {E:Env} {f:Nat} {V:List Nat} {Q:Ex→Fr→Prop} {m:Mc} {α:Type}
def mEf:Mc→List (Nat×D)→List (Nat×Path)→Mc
 | .op id ops draw ks j s,p,K=>.op id ops draw ks (j+1) ((j,p.map (·.1),some K)::s.1,putsF p s.2)
 | _,_,_=>.bad
def effM (E:Env) (f:Nat):Mc→List (Nat×D)→List (Nat×Path)→Bool
 | .op _ ops draw _ j s,p,K=>match ops[j]? with
  | some o=>draw&&!anchored ops j&&isTrue (wantedD ops (frd draw ops j s) o)&&(pureC E f noCall ops (frd draw ops j s) o).isNone&&effOK E f ops s.1 j s.2 o p K
  | none=>false
 | _,_,_=>false
theorem m_eff {p:List (Nat×D)} {K:List (Nat×Path)} (hok:effM E f m p K=true) (h:effC E f V noCall (mF m) (mO m)=some (p,K)) (k:MhD E f V Q (mEf m p K)):MhD E f V Q m:=by
 cases m with
 | pt c F=>cases hok
 | bad=>cases hok
 | op id ops draw ks j s=>
  refine MhD.op_step ⟨0,fun n _=>stepS_le noCall_le (c:=noCall) ?_⟩ k
  simp only [effM] at hok
  split at hok
  ·rename_i o ho
   simp only [Bool.and_eq_true] at hok
   obtain ⟨⟨⟨⟨hd,han⟩,hw⟩,hpn⟩,hef⟩:=hok
   have hw:=isTrue_eq hw
   have han:anchored ops j=false:=by simpa using han
   cases draw with
   | false=>cases hd
   | true=>
    simp only [mF,mO,ho,frd,han,Bool.not_false,Bool.and_self,cond_true] at h hw hpn
    have hl:effS E f V noCall ops s.1 j s.2 o=some ((j,p.map (·.1),some K)::s.1,putsF p s.2):=by
     unfold effS
     simp only [effC_nolit h,hw,h]
     rw [if_pos hef]
    unfold stepS
    simp only [ho,cond_true,han,cond_false,Option.isNone_iff_eq_none.1 hpn,hl]
  ·cases hok
theorem shape_noT {F:Fr} {o:Oper} (h:(appShape E F o).isSome=true):storeT E F o=none:=by
 cases hs:storeT E F o with
 | none=>rfl
 | some r=>
  unfold storeT at hs
  split at hs
  ·rename_i hq
   unfold appShape at h
   simp [hq] at h
  ·cases hs
def apP (E:Env) (m:Mc) (d:D):List (Nat×D):=match appShape E (mF m) (mO m) with
 | some z=>appPuts z (fin (apF (apX E (mF m) (mO m))) (mO m).dst d)
 | none=>[]
def apK (E:Env) (m:Mc):List (Nat×Path):=match appShape E (mF m) (mO m) with
 | some z=>z.2.2
 | none=>[]
theorem mAppL (n:Nat) (e:Enc α) (l x:List α) {c N1 N2:Nat} {R:Prop} (h:(N1+N2)*c≤140737488355328∧R)
  (k:R→Mh E f V Q (mEf (runM E f V n m) (apP E (runM E f V n m) (.own ((l++x).map e))) (apK E (runM E f V n m))))
  (K:(effM E f (runM E f V n m) (apP E (runM E f V n m) (.own ((l++x).map e))) (apK E (runM E f V n m)),(appShape E (mF (runM E f V n m)) (mO (runM E f V n m))).isSome,(storeP E (mF (runM E f V n m)) (mO (runM E f V n m))).isNone,apR (apX E (mF (runM E f V n m)) (mO (runM E f V n m))),l.length,x.length)=(true,true,true,some (l.map e,x.map e,c),N1,N2):=by kernel_rfl)
  (hk:∀ x,(e x).length=apW (apX E (mF (runM E f V n m)) (mO (runM E f V n m))):=by intro;kernel_rfl):Mh E f V Q m:=by
 simp only [Prod.mk.injEq] at K
 obtain ⟨h1,h2,h3,h4,rfl,rfl⟩:=K
 obtain ⟨z,hz⟩:=Option.isSome_iff_exists.1 h2
 have h5:=apX_op (f:=f) (V:=V) h4 hk h.1
 refine runK n m ⟨m_eff h1 ?_ (k h.2).out⟩
 unfold effC
 simp only [Option.isNone_iff_eq_none.1 h3,shape_noT h2,hz,h5,apP,apK]
def acP (E:Env) (m:Mc) (F':Fr):List (Nat×D):=match appShape E (mF m) (mO m) with
 | some z=>appPuts z F'
 | none=>[]
theorem mActL (n:Nat) {F':Fr} (hv:opC E f V noCall (mF (runM E f V n m)) (mO (runM E f V n m))=some F') (k:Mh E f V Q (mEf (runM E f V n m) (acP E (runM E f V n m) F') (apK E (runM E f V n m))))
  (K:(effM E f (runM E f V n m) (acP E (runM E f V n m) F') (apK E (runM E f V n m)),(appShape E (mF (runM E f V n m)) (mO (runM E f V n m))).isSome,(storeP E (mF (runM E f V n m)) (mO (runM E f V n m))).isNone)=(true,true,true):=by kernel_rfl):Mh E f V Q m:=by
 simp only [Prod.mk.injEq] at K
 obtain ⟨h1,h2,h3⟩:=K
 obtain ⟨z,hz⟩:=Option.isSome_iff_exists.1 h2
 refine runK n m ⟨m_eff h1 ?_ k.out⟩
 unfold effC
 simp only [Option.isNone_iff_eq_none.1 h3,shape_noT h2,hz,hv,acP,apK]
end
end Go.Own
namespace Go.Own
open D
section
variable {E:Env} {f:Nat} {V:List Nat} {Q:Ex→Fr→Prop} {m:Mc} {α ρ:Type}
end
end Go.Own
