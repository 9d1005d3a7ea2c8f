/- An interpreter of function bodies without memory, proved sound for the model. No conditions. -/
import Derived.Test.YteenpfaegjdkoaaGreatOwn23
set_option linter.all false
namespace Go.Own
open D
section
variable {E:Env} {f:Nat} {V:List Nat} {Q:Ex→Fr→Prop} {m:Mc} {α:Type}
def mEf:Mc→List (Nat×D)→List (Nat×Path)→Mc
 | .op id ops draw ks j s,p,K=>.op id ops draw ks (j+1) ((j,p.map (·.1),some K)::s.1,putsF p s.2)
 | _,_,_=>.bad
def effM (E:Env) (f:Nat):Mc→List (Nat×D)→List (Nat×Path)→Bool
 | .op _ ops draw _ j s,p,K=>match ops[j]? with
  | some o=>draw&&!anchored ops j&&isTrue (wantedD ops (frd draw ops j s) o)&&(pureC E f noCall ops (frd draw ops j s) o).isNone&&effOK E f ops s.1 j s.2 o p K
  | none=>false
 | _,_,_=>false
theorem m_eff {p:List (Nat×D)} {K:List (Nat×Path)} (hok:effM E f m p K=true) (h:effC E f V noCall (mF m) (mO m)=some (p,K)) (k:MhD E f V Q (mEf m p K)):MhD E f V Q m:=by
 cases m with
 | pt c F=>cases hok
 | bad=>cases hok
 | op id ops draw ks j s=>
  refine MhD.op_step ⟨0,fun n _=>stepS_le noCall_le (c:=noCall) ?_⟩ k
  simp only [effM] at hok
  split at hok
  ·rename_i o ho
   simp only [Bool.and_eq_true] at hok
   obtain ⟨⟨⟨⟨hd,han⟩,hw⟩,hpn⟩,hef⟩:=hok
   have hw:=isTrue_eq hw
   have han:anchored ops j=false:=by simpa using han
   cases draw with
   | false=>cases hd
   | true=>
    simp only [mF,mO,ho,frd,han,Bool.not_false,Bool.and_self,cond_true] at h hw hpn
    have hl:effS E f V noCall ops s.1 j s.2 o=some ((j,p.map (·.1),some K)::s.1,putsF p s.2):=by
     unfold effS
     simp only [effC_nolit h,hw,h]
     rw [if_pos hef]
    unfold stepS
    simp only [ho,cond_true,han,cond_false,Option.isNone_iff_eq_none.1 hpn,hl]
  ·cases hok
theorem shape_noT {F:Fr} {o:Oper} (h:(appShape E F o).isSome=true):storeT E F o=none:=by
 cases hs:storeT E F o with
 | none=>rfl
 | some r=>
  unfold storeT at hs
  split at hs
  ·rename_i hq
   unfold appShape at h
   simp [hq] at h
  ·cases hs
def apP (E:Env) (m:Mc) (d:D):List (Nat×D):=match appShape E (mF m) (mO m) with
 | some z=>appPuts z (fin (apF (apX E (mF m) (mO m))) (mO m).dst d)
 | none=>[]
def apK (E:Env) (m:Mc):List (Nat×Path):=match appShape E (mF m) (mO m) with
 | some z=>z.2.2
 | none=>[]
theorem mAppL (n:Nat) (e:Enc α) (l x:List α) {c N1 N2:Nat} {R:Prop} (h:(N1+N2)*c≤140737488355328∧R)
  (k:R→Mh E f V Q (mEf (runM E f V n m) (apP E (runM E f V n m) (.own ((l++x).map e))) (apK E (runM E f V n m))))
  (K:(effM E f (runM E f V n m) (apP E (runM E f V n m) (.own ((l++x).map e))) (apK E (runM E f V n m)),(appShape E (mF (runM E f V n m)) (mO (runM E f V n m))).isSome,(storeP E (mF (runM E f V n m)) (mO (runM E f V n m))).isNone,apR (apX E (mF (runM E f V n m)) (mO (runM E f V n m))),l.length,x.length)=(true,true,true,some (l.map e,x.map e,c),N1,N2):=by kernel_rfl)
  (hk:∀ x,(e x).length=apW (apX E (mF (runM E f V n m)) (mO (runM E f V n m))):=by intro;kernel_rfl):Mh E f V Q m:=by
 simp only [Prod.mk.injEq] at K
 obtain ⟨h1,h2,h3,h4,rfl,rfl⟩:=K
 obtain ⟨z,hz⟩:=Option.isSome_iff_exists.1 h2
 have h5:=apX_op (f:=f) (V:=V) h4 hk h.1
 refine runK n m ⟨m_eff h1 ?_ (k h.2).out⟩
 unfold effC
 simp only [Option.isNone_iff_eq_none.1 h3,shape_noT h2,hz,h5,apP,apK]
def acP (E:Env) (m:Mc) (F':Fr):List (Nat×D):=match appShape E (mF m) (mO m) with
 | some z=>appPuts z F'
 | none=>[]
theorem mActL (n:Nat) {F':Fr} (hv:opC E f V noCall (mF (runM E f V n m)) (mO (runM E f V n m))=some F') (k:Mh E f V Q (mEf (runM E f V n m) (acP E (runM E f V n m) F') (apK E (runM E f V n m))))
  (K:(effM E f (runM E f V n m) (acP E (runM E f V n m) F') (apK E (runM E f V n m)),(appShape E (mF (runM E f V n m)) (mO (runM E f V n m))).isSome,(storeP E (mF (runM E f V n m)) (mO (runM E f V n m))).isNone)=(true,true,true):=by kernel_rfl):Mh E f V Q m:=by
 simp only [Prod.mk.injEq] at K
 obtain ⟨h1,h2,h3⟩:=K
 obtain ⟨z,hz⟩:=Option.isSome_iff_exists.1 h2
 refine runK n m ⟨m_eff h1 ?_ k.out⟩
 unfold effC
 simp only [Option.isNone_iff_eq_none.1 h3,shape_noT h2,hz,hv,acP,apK]
end
end Go.Own
namespace Go.Own
open D
section
variable {E:Env} {f:Nat} {V:List Nat} {Q:Ex→Fr→Prop} {m:Mc} {α ρ:Type}
def noLoan:Option (Nat×Path)→Bool
 | none=>true
 | some _=>false
def clZ (E:Env) (g:Nat) (m:Mc):Option Fr:=frzAll (clOf E g (mS m) (mO m)).f1 (snapSrcs E g (clOf E g (mS m) (mO m)).f1 (clOf E g (mS m) (mO m)).x 0 (clOf E g (mS m) (mO m)).agl)
def mClZ (E:Env) (g:Nat) (m:Mc) (r:D):Mc:=mSet m (fin ((clZ E g m).getD []) (mO m).dst r)
theorem m_callZ {g:Nat} {ds:List D} {r:D} {Fz:Fr} (hok:opM m=true) (hc:clOK E g (mS m) (mO m) []=true)
  (hr:passRest E g (clOf E g (mS m) (mO m)).f1 (clOf E g (mS m) (mO m)).f2 (clOf E g (mS m) (mO m)).x (clOf E g (mS m) (mO m)).ld 0 (clOf E g (mS m) (mO m)).agl (clOf E g (mS m) (mO m)).ms=some ds) (hret:Ret E g ds r [])
  (hf:(if r.flatR&&([]:List D).all flat then some (clOf E g (mS m) (mO m)).f1 else frzAll (clOf E g (mS m) (mO m)).f1 (snapSrcs E g (clOf E g (mS m) (mO m)).f1 (clOf E g (mS m) (mO m)).x 0 (clOf E g (mS m) (mO m)).agl))=some Fz)
  (hn:noLoan (clOf E g (mS m) (mO m)).l=true)
  (hcold:E.eager f ((mO m).dst.getD 0)=false)
  (k:Mh E f V Q (mSet m (fin Fz (mO m).dst r))):Mh E f V Q m:=by
 obtain ⟨N,hN⟩:=hret
 refine ⟨m_op' hok ⟨N,fun n hn=>?_⟩ k.out⟩
 generalize mS m=F at *
 generalize mO m=o at *
 simp only [clOK,Bool.and_eq_true] at hc
 obtain ⟨⟨⟨⟨⟨hc,hfn⟩,hm⟩,hl⟩,hh⟩,hg⟩:=hc
 obtain ⟨x,hx⟩:=Option.isSome_iff_exists.1 hc
 obtain ⟨⟨ms,F1⟩,hm⟩:=Option.isSome_iff_exists.1 hm
 obtain ⟨l,hl⟩:=Option.isSome_iff_exists.1 hl
 obtain ⟨⟨ld,F2⟩,hh⟩:=Option.isSome_iff_exists.1 hh
 have ex:cX o=x:=by unfold cX;rw [hx];rfl
 have ef:(clOf E g F o).f1=F1:=by simp only [clOf,pmF,hm]
 have em:(clOf E g F o).ms=ms:=by simp only [clOf,cMs,hm]
 have el:(clOf E g F o).l=l:=by
  have:(clOf E g F o).l=cL E g (clOf E g F o).f1 (cX o) (cA E F o):=rfl
  rw [this];simp only [cL,hl];rfl
 have eh:(clOf E g F o).ld=ld:=by
  have:(clOf E g F o).ld=cLd (clOf E g F o).f1 (clOf E g F o).l:=rfl
  rw [this];simp only [cLd,hh]
 have e2:(clOf E g F o).f2=F2:=by
  have:(clOf E g F o).f2=hoF (clOf E g F o).f1 (clOf E g F o).l:=rfl
  rw [this];simp only [hoF,hh]
 have eln:l=none:=by
  rw [el] at hn
  cases l with
  | none=>rfl
  | some q=>cases hn
 obtain ⟨caps,hfn⟩:∃ caps,opd E F (cX o)=some (fn g caps):=by
  unfold fnIs at hfn
  split at hfn
  ·rename_i g' cs h;rw [Nat.eq_of_beq_eq_true hfn] at h;exact ⟨cs,h⟩
  ·cases hfn
 have ea:(clOf E g F o).agl=argsOf (argsIn o.op) caps.length:=by simp only [clOf,cA,cCaps,hfn]
 have eX:(clOf E g F o).x=x:=ex
 rw [ef,e2,eX,eh,em,ea] at hr
 rw [ef,eX,ea] at hf
 have ea':cA E F o=argsOf (argsIn o.op) caps.length:=ea
 rw [ea'] at hm
 rw [ef,ex,ea'] at hl
 rw [ef,el] at hh
 rw [ex] at hfn
 rw [eln] at hl hh
 unfold opC
 unfold calleeOf at hx
 split at hx
 ·rename_i c hop
  split at hx
  ·rename_i y hcl
   simp only [Option.some.injEq] at hx
   subst hx
   simp only [hop,hcl,hfn]
   simp only [argsIn,hop] at hm hl hr hf
   have:callC E (callN E n) F g y (argsOf c.args.toList caps.length)=some (r,Fz):=by
    unfold callC
    simp only [hm,hl,hh,hr,hN n ‹_›,hf,giveBack,Option.map_some]
   simp only [this,Option.bind_some,hcold,Option.map_some,coldD,Bool.false_eq_true,if_false]
  ·cases hx
 ·cases hx
theorem mCalW (n:Nat) {g:Nat} {P:ρ→Prop} {R:ρ→Prop} {res:ρ→D} {ds:List D} (h:∃ r,P r∧R r) (hP:∀ r,P r→Ret E g ds (res r) [])
  (k:∀ r,P r→R r→Mh E f V Q (mCl E g (runM E f V n m) [] (res r)))
  (k2:∀ r,P r→R r→Mh E f V Q (mClZ E g (runM E f V n m) (res r)))
  (K:(opM (runM E f V n m),clOK E g (mS (runM E f V n m)) (mO (runM E f V n m)) [],clE E f (runM E f V n m),noLoan (clOf E g (mS (runM E f V n m)) (mO (runM E f V n m))).l,(clZ E g (runM E f V n m)).isSome)=(true,true,false,true,true):=by kernel_rfl)
  (hr:clR E g (runM E f V n m)=some ds:=by kernel_rfl):Mh E f V Q m:=by
 obtain ⟨r,h1,h2⟩:=h
 simp only [Prod.mk.injEq] at K
 obtain ⟨K1,K2,K3,K4,K5⟩:=K
 by_cases hb:((res r).flatR&&([]:List D).all flat)=true
 ·refine runK n m (m_callA K1 K2 hr (hP r h1) (by rw [if_pos hb]) ?_ (k r h1 h2))
  unfold clE at K3
  rw [K3];rfl
 ·obtain ⟨Fz,hz⟩:=Option.isSome_iff_exists.1 K5
  have hk:=k2 r h1 h2
  unfold mClZ at hk
  rw [hz] at hk
  exact runK n m (m_callZ K1 K2 hr (hP r h1) (by rw [if_neg hb];exact hz) K4 K3 hk)
end
end Go.Own
