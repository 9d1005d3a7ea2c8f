/- No conditions. -/
import Derived.Test.YtbmbbljdpnpmeaaGreatDoorOwn24
set_option linter.all false
namespace Go.Own
open D
section
variable {E:Env} {f:Nat} {V:List Nat} {Q:Ex->Fr->Prop} {m:Mc} {α:Type}
def lstX (E:Env) (F:Fr) (o:Oper):Option (D×Nat×Nat×Nat×List (List D)×Nat):=match o.op with
 | .store t x y=>match o.dst with
  | some _=>none
  | none=>match Adx E F y with
   | none=>none
   | some d=>match opd E F x with
    | some (place s [] i c)=>match get F s with
     | own es=>bif (E.P.info? t).isSome&&Nat.beq d.cells.length (sizeT E.P t) then some (d,s,i,c,es,sizeT E.P t) else none
     | _=>none
    | _=>none
 | _=>none
def lstR:Option (D×Nat×Nat×Nat×List (List D)×Nat)->Option (List (List D)×Nat)
 | some (_,_,i,_,es,_)=>some (es,i)
 | none=>none
def lstS:Option (D×Nat×Nat×Nat×List (List D)×Nat)->Nat
 | some (_,s,_,_,_,_)=>s
 | none=>0
def lstC (cs:List D):Option (D×Nat×Nat×Nat×List (List D)×Nat)->Option (List D)
 | some (d,_,_,c,_,k)=>bif Nat.ble (c+k) cs.length&&!((cs.drop c).take k).any node1 then some (cs.take c++d.cells++cs.drop (c+k)) else none
 | none=>none
theorem Bdy {F:Fr} {o:Oper} {es:List (List D)} {i:Nat} {cs cs':List D} (h:lstR (lstX E F o)=some (es,i)) (ha:es[i]? = some cs) (hc:lstC cs (lstX E F o)=some cs'):Aef E F o=some ((lstS (lstX E F o),own (es.set i cs')),[]):=by
 cases hx:lstX E F o with
 | none=>rw [hx] at h;cases h
 | some z=>
  obtain ⟨d,s,i',c,es',k⟩:=z;rw [hx] at h hc;simp only [lstR,zJ,Prod.mk.injEq] at h;obtain ⟨rfl,rfl⟩:=h;simp only [lstC] at hc;cases hb:(Nat.ble (c+k) cs.length&&!((cs.drop c).take k).any node1) with
  | false=>rw [hb] at hc;cases hc
  | true=>
   rw [hb] at hc;simp only [cond_true,zJ] at hc;subst hc;rw [Bool.and_eq_true] at hb;have hb1:=Nat.le_of_ble_eq_true hb.1;have hb2:((cs.drop c).take k).any node1=false:=by simpa using hb.2
   unfold lstX at hx;unfold Aef
   split at hx
   ·rename_i t x y hq
    split at hx
    ·cases hx
    ·rename_i hdst
     split at hx
     ·cases hx
     ·rename_i d' hy
      split at hx
      ·rename_i s' i2 c' hxx
       split at hx
       ·rename_i es2 hg;cases hi:((E.P.info? t).isSome&&Nat.beq d'.cells.length (sizeT E.P t)) with
        | false=>rw [hi] at hx;cases hx
        | true=>
         rw [hi] at hx;simp only [cond_true,zJ,Prod.mk.injEq] at hx;obtain ⟨rfl,rfl,rfl,rfl,rfl,rfl⟩:=hx;rw [Bool.and_eq_true] at hi;have h1:=hi.1;have h2:=Nat.eq_of_beq_eq_true hi.2;simp only [hq,hdst,hy,hxx,hg,ha,lstS];rw [if_pos ⟨h1,h2,hb1⟩];simp only [Alp,hb2,Bool.false_eq_true,if_false]
       ·cases hx
      ·cases hx
   ·cases hx
def mEf:Mc->List (Nat×D)->List (Nat×Path)->Mc
 | .op id ops draw ks j s,p,K=>.op id ops draw ks (j+1) ((j,p.map (·.1),some K)::s.1,putsF p s.2)
 | _,_,_=>.bad
def effM (E:Env) (f:Nat):Mc->List (Nat×D)->List (Nat×Path)->Bool
 | .op _ ops draw _ j s,p,K=>match ops[j]? with
  | some o=>draw&&!Abv ops j&&Alu (wantedD ops (frd draw ops j s) o)&&(Aas E f Acn ops (frd draw ops j s) o).isNone&&Aw8 E f ops s.1 j s.2 o p K
  | none=>false
 | _,_,_=>false
theorem Blz {p:List (Nat×D)} {K:List (Nat×Path)} (hok:effM E f m p K=true) (h:effC E f V Acn (mF m) (mO m)=some (p,K)) (k:MhD E f V Q (mEf m p K)):MhD E f V Q m:=by
 cases m with
 | pt c F=>cases hok
 | bad=>cases hok
 | op id ops draw ks j s=>
  refine MhD.op_step ⟨0,fun n _=>Arc Aky (c:=Acn) ?_⟩ k;simp only [effM] at hok
  split at hok
  ·rename_i o ho;simp only [Bool.and_eq_true] at hok;obtain ⟨⟨⟨⟨hd,han⟩,hw⟩,hpn⟩,hef⟩:=hok;have hw:=Aku hw;have han:Abv ops j=false:=by simpa using han
   cases draw with
   | false=>cases hd
   | true=>
    simp only [mF,mO,ho,frd,han,Bool.not_false,Bool.and_self,cond_true] at h hw hpn;have hl:effS E f V Acn ops s.1 j s.2 o=some ((j,p.map (·.1),some K)::s.1,putsF p s.2):=by
     unfold effS;simp only [Baw h,hw,h];rw [if_pos hef]
    unfold Agh;simp only [ho,cond_true,han,cond_false,Option.isNone_iff_eq_none.1 hpn,hl]
  ·cases hok
theorem Aeo (n:Nat) (e:Enc α) {l:List α} {i:Int} {a:α} (b:α) (h:lget l i=some a)
  (k:Mh E f V Q (mEf (runM E f V n m) [(lstS (lstX E (mF (runM E f V n m)) (mO (runM E f V n m))),.own ((lset l i b).map e))] []))
  (K:(effM E f (runM E f V n m) [(lstS (lstX E (mF (runM E f V n m)) (mO (runM E f V n m))),.own ((lset l i b).map e))] [],lstR (lstX E (mF (runM E f V n m)) (mO (runM E f V n m))),lstC (e a) (lstX E (mF (runM E f V n m)) (mO (runM E f V n m))))=(true,some (l.map e,i.toNat),some (e b)):=by kernel_rfl):Mh E f V Q m:=by
 simp only [Prod.mk.injEq] at K;obtain ⟨h1,h2,h3⟩:=K;have h4:Aef E (mF (runM E f V n m)) (mO (runM E f V n m))=some ((lstS (lstX E (mF (runM E f V n m)) (mO (runM E f V n m))),.own ((lset l i b).map e)),[]):=by
  have:=Bdy (i:=i.toNat) h2 (cs:=e a) (by rw [List.getElem?_map,(Abg h).2];rfl) h3;have h5:(l.map e).set i.toNat (e b)=(lset l i b).map e:=by unfold lset;rw [List.map_set]
  rw [h5] at this;exact this
 exact runK n m ⟨Blz h1 (by unfold effC;simp only [h4]) k.out⟩
end
end Go.Own
namespace Go.Own
open D
section
variable {E:Env} {f:Nat} {V:List Nat} {Q:Ex->Fr->Prop} {m:Mc} {α ρ:Type}
def Bdz:Option (Nat×Path)->Bool
 | none=>true
 | some _=>false
theorem Bjo {g:Nat} {ds:List D} {r:D} {Fz:Fr} (hok:opM m=true) (hc:clOK E g (mS m) (mO m) []=true)
  (hr:passRest E g (clOf E g (mS m) (mO m)).f1 (clOf E g (mS m) (mO m)).f2 (clOf E g (mS m) (mO m)).x (clOf E g (mS m) (mO m)).ld 0 (clOf E g (mS m) (mO m)).agl (clOf E g (mS m) (mO m)).ms=some ds) (hret:Ret E g ds r [])
  (hf:(if r.flatR&&([]:List D).all flat then some (clOf E g (mS m) (mO m)).f1 else frzAll (clOf E g (mS m) (mO m)).f1 (snapSrcs E g (clOf E g (mS m) (mO m)).f1 (clOf E g (mS m) (mO m)).x 0 (clOf E g (mS m) (mO m)).agl))=some Fz)
  (hn:Bdz (clOf E g (mS m) (mO m)).l=true)
  (hcold:E.eager f ((mO m).dst.getD 0)=false)
  (k:Mh E f V Q (mSet m (fin Fz (mO m).dst r))):Mh E f V Q m:=by
 obtain ⟨N,hN⟩:=hret;refine ⟨m_op' hok ⟨N,fun n hn=>?_⟩ k.out⟩;generalize mS m=F at *;generalize mO m=o at *;simp only [clOK,Bool.and_eq_true] at hc;obtain ⟨⟨⟨⟨⟨hc,hfn⟩,hm⟩,hl⟩,hh⟩,hg⟩:=hc;obtain ⟨x,hx⟩:=Option.isSome_iff_exists.1 hc;obtain ⟨⟨ms,F1⟩,hm⟩:=Option.isSome_iff_exists.1 hm;obtain ⟨l,hl⟩:=Option.isSome_iff_exists.1 hl;obtain ⟨⟨ld,F2⟩,hh⟩:=Option.isSome_iff_exists.1 hh;have ex:cX o=x:=by unfold cX;rw [hx];rfl
 have ef:(clOf E g F o).f1=F1:=by simp only [clOf,pmF,hm]
 have em:(clOf E g F o).ms=ms:=by simp only [clOf,cMs,hm]
 have el:(clOf E g F o).l=l:=by
  have:(clOf E g F o).l=cL E g (clOf E g F o).f1 (cX o) (cA E F o):=rfl;rw [this];simp only [cL,hl];rfl
 have eh:(clOf E g F o).ld=ld:=by
  have:(clOf E g F o).ld=cLd (clOf E g F o).f1 (clOf E g F o).l:=rfl;rw [this];simp only [cLd,hh]
 have e2:(clOf E g F o).f2=F2:=by
  have:(clOf E g F o).f2=hoF (clOf E g F o).f1 (clOf E g F o).l:=rfl;rw [this];simp only [hoF,hh]
 have eln:l=none:=by
  rw [el] at hn;cases l with
  | none=>rfl
  | some q=>cases hn
 obtain ⟨caps,hfn⟩:∃ caps,opd E F (cX o)=some (fn g caps):=by
  unfold fnIs at hfn
  split at hfn
  ·rename_i g' cs h;rw [Nat.eq_of_beq_eq_true hfn] at h;exact ⟨cs,h⟩
  ·cases hfn
 have ea:(clOf E g F o).agl=argsOf (Agx o.op) caps.length:=by simp only [clOf,cA,Aro,hfn]
 have eX:(clOf E g F o).x=x:=ex;rw [ef,e2,eX,eh,em,ea] at hr;rw [ef,eX,ea] at hf;have ea':cA E F o=argsOf (Agx o.op) caps.length:=ea;rw [ea'] at hm;rw [ef,ex,ea'] at hl;rw [ef,el] at hh;rw [ex] at hfn;rw [eln] at hl hh;unfold opC;unfold Ahr at hx
 split at hx
 ·rename_i c hop
  split at hx
  ·rename_i y hcl;simp only [zJ] at hx;subst hx;simp only [hop,hcl,hfn];simp only [Agx,hop] at hm hl hr hf;have:callC E (Acg E n) F g y (argsOf c.args.toList caps.length)=some (r,Fz):=by
    unfold callC;simp only [hm,hl,hh,hr,hN n ‹_›,hf,giveBack,Option.map_some]
   simp only [this,Option.bind_some,hcold,Option.map_some,coldD,Bool.false_eq_true,if_false]
  ·cases hx
 ·cases hx
def mClV (E:Env) (g:Nat) (m:Mc) (s:Nat) (ps:Path) (d r:D):Mc:=mSet m (fin (killB ((setAt (clOf E g (mS m) (mO m)).f1 s ps d).getD []) s ps) (mO m).dst r)
theorem Bly (n:Nat) {g s:Nat} {ps:Path} {l:List α} {e e':Enc α} {P:ρ->Prop} {R:ρ->Prop} {res:ρ->D} {ds:List D} (h:∃ r,P r/\R r) (hP:∀ r,P r->Ret E g ds (res r) []) (hfz:Fzn e id e')
  (k:∀ r,P r->R r->Mh E f V Q (mCl E g (runM E f V n m) [] (res r)))
  (k2:∀ r,P r->R r->Mh E f V Q (mClV E g (runM E f V n m) s ps (.sl (l.map e')) (res r)))
  (K:(opM (runM E f V n m),clOK E g (mS (runM E f V n m)) (mO (runM E f V n m)) [],clE E f (runM E f V n m),Bdz (clOf E g (mS (runM E f V n m)) (mO (runM E f V n m))).l,(setAt (clOf E g (mS (runM E f V n m)) (mO (runM E f V n m))).f1 s ps (.sl (l.map e'))).isSome)=(true,true,false,true,true):=by kernel_rfl)
  (hs:snapSrcs E g (clOf E g (mS (runM E f V n m)) (mO (runM E f V n m))).f1 (clOf E g (mS (runM E f V n m)) (mO (runM E f V n m))).x 0 (clOf E g (mS (runM E f V n m)) (mO (runM E f V n m))).agl=[.alias s ps]:=by kernel_rfl)
  (hg:getAt (clOf E g (mS (runM E f V n m)) (mO (runM E f V n m))).f1 s ps=some (.own (l.map e)):=by kernel_rfl)
  (hr:clR E g (runM E f V n m)=some ds:=by kernel_rfl):Mh E f V Q m:=by
 obtain ⟨r,h1,h2⟩:=h;simp only [Prod.mk.injEq] at K;obtain ⟨K1,K2,K3,K4,K5⟩:=K;by_cases hb:((res r).flatR&&([]:List D).all flat)=true
 ·refine runK n m (Alw K1 K2 hr (hP r h1) (by rw [if_pos hb]) ?_ (k r h1 h2));unfold clE at K3;rw [K3];rfl
 ·obtain ⟨F1,hst⟩:=Option.isSome_iff_exists.1 K5;have hk:=k2 r h1 h2;unfold mClV at hk;rw [hst,Option.getD_some] at hk;refine runK n m (Bjo K1 K2 hr (hP r h1) (Fz:=killB F1 s ps) (by
   rw [if_neg hb,hs];simp only [frzAll,frzD,frz1,frzAt,hg,D.ex1,if_true,Abw hfz l,hst,Option.map_some]) K4 K3 hk)
end
end Go.Own
namespace Go.Own
open D
end Go.Own
