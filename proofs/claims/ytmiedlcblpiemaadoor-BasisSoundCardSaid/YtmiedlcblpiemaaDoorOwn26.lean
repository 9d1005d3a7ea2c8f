/- An interpreter of function bodies, sound. No conditions. -/
import Derived.Test.YtmiedlcblpiemaaDoorOwn25
set_option linter.all false
namespace Go.Own
open D
section
variable {E:Env} {f:Nat} {V:List Nat} {Q:Ex->Fr->Prop} {m:Mc} {α:Type}
def lstX (E:Env) (F:Fr) (o:Oper):Option (D×Nat×Nat×Nat×List (List D)×Nat):=match o.op with
 | .store t x y=>match o.dst with
  | some _=>none
  | none=>match Adn E F y with
   | none=>none
   | some d=>match opd E F x with
    | some (place s [] i c)=>match get F s with
     | own es=>bif (E.P.info? t).isSome&&Nat.beq d.cells.length (sizeT E.P t) then some (d,s,i,c,es,sizeT E.P t) else none
     | _=>none
    | _=>none
 | _=>none
def lstR:Option (D×Nat×Nat×Nat×List (List D)×Nat)->Option (List (List D)×Nat)
 | some (_,_,i,_,es,_)=>some (es,i)
 | none=>none
def lstS:Option (D×Nat×Nat×Nat×List (List D)×Nat)->Nat
 | some (_,s,_,_,_,_)=>s
 | none=>0
def lstC (cs:List D):Option (D×Nat×Nat×Nat×List (List D)×Nat)->Option (List D)
 | some (d,_,_,c,_,k)=>bif Nat.ble (c+k) cs.length&&!((cs.drop c).take k).any node1 then some (cs.take c++d.cells++cs.drop (c+k)) else none
 | none=>none
theorem Bbj {F:Fr} {o:Oper} {es:List (List D)} {i:Nat} {cs cs':List D} (h:lstR (lstX E F o)=some (es,i)) (ha:es[i]? = some cs) (hc:lstC cs (lstX E F o)=some cs'):Aed E F o=some ((lstS (lstX E F o),own (es.set i cs')),[]):=by
 cases hx:lstX E F o with
 | none=>rw [hx] at h;cases h
 | some z=>
  obtain ⟨d,s,i',c,es',k⟩:=z;rw [hx] at h hc;simp only [lstR,zJ,Prod.mk.injEq] at h;obtain ⟨rfl,rfl⟩:=h;simp only [lstC] at hc;cases hb:(Nat.ble (c+k) cs.length&&!((cs.drop c).take k).any node1) with
  | false=>rw [hb] at hc;cases hc
  | true=>
   rw [hb] at hc;simp only [cond_true,zJ] at hc;subst hc;rw [Bool.and_eq_true] at hb;have hb1:=Nat.le_of_ble_eq_true hb.1;have hb2:((cs.drop c).take k).any node1=false:=by simpa using hb.2
   unfold lstX at hx;unfold Aed
   split at hx
   ·rename_i t x y hq
    split at hx
    ·cases hx
    ·rename_i hdst
     split at hx
     ·cases hx
     ·rename_i d' hy
      split at hx
      ·rename_i s' i2 c' hxx
       split at hx
       ·rename_i es2 hg;cases hi:((E.P.info? t).isSome&&Nat.beq d'.cells.length (sizeT E.P t)) with
        | false=>rw [hi] at hx;cases hx
        | true=>
         rw [hi] at hx;simp only [cond_true,zJ,Prod.mk.injEq] at hx;obtain ⟨rfl,rfl,rfl,rfl,rfl,rfl⟩:=hx;rw [Bool.and_eq_true] at hi;have h1:=hi.1;have h2:=Nat.eq_of_beq_eq_true hi.2;simp only [hq,hdst,hy,hxx,hg,ha,lstS];rw [if_pos ⟨h1,h2,hb1⟩];simp only [Al4,hb2,Bool.false_eq_true,if_false]
       ·cases hx
      ·cases hx
   ·cases hx
def mEf:Mc->List (Nat×D)->List (Nat×Path)->Mc
 | .op id ops draw ks j s,p,K=>.op id ops draw ks (j+1) ((j,p.map (·.1),some K)::s.1,putsF p s.2)
 | _,_,_=>.bad
def effM (E:Env) (f:Nat):Mc->List (Nat×D)->List (Nat×Path)->Bool
 | .op _ ops draw _ j s,p,K=>match ops[j]? with
  | some o=>draw&&!Abh ops j&&Ala (wantedD ops (frd draw ops j s) o)&&(Aap E f Acd ops (frd draw ops j s) o).isNone&&Av0 E f ops s.1 j s.2 o p K
  | none=>false
 | _,_,_=>false
theorem Bim {p:List (Nat×D)} {K:List (Nat×Path)} (hok:effM E f m p K=true) (h:effC E f V Acd (mF m) (mO m)=some (p,K)) (k:MhD E f V Q (mEf m p K)):MhD E f V Q m:=by
 cases m with
 | pt c F=>cases hok
 | bad=>cases hok
 | op id ops draw ks j s=>
  refine MhD.op_step ⟨0,fun n _=>Aq9 Akh (c:=Acd) ?_⟩ k;simp only [effM] at hok
  split at hok
  ·rename_i o ho;simp only [Bool.and_eq_true] at hok;obtain ⟨⟨⟨⟨hd,han⟩,hw⟩,hpn⟩,hef⟩:=hok;have hw:=Ake hw;have han:Abh ops j=false:=by simpa using han
   cases draw with
   | false=>cases hd
   | true=>
    simp only [mF,mO,ho,frd,han,Bool.not_false,Bool.and_self,cond_true] at h hw hpn;have hl:effS E f V Acd ops s.1 j s.2 o=some ((j,p.map (·.1),some K)::s.1,putsF p s.2):=by
     unfold effS;simp only [Ayy h,hw,h];rw [if_pos hef]
    unfold Agk;simp only [ho,cond_true,han,cond_false,Option.isNone_iff_eq_none.1 hpn,hl]
  ·cases hok
theorem Bil (n:Nat) (e:Enc α) {l:List α} {i:Int} {a:α} (b:α) (h:lget l i=some a)
  (k:Mh E f V Q (mEf (runM E f V n m) [(lstS (lstX E (mF (runM E f V n m)) (mO (runM E f V n m))),.own ((lset l i b).map e))] []))
  (K:(effM E f (runM E f V n m) [(lstS (lstX E (mF (runM E f V n m)) (mO (runM E f V n m))),.own ((lset l i b).map e))] [],lstR (lstX E (mF (runM E f V n m)) (mO (runM E f V n m))),lstC (e a) (lstX E (mF (runM E f V n m)) (mO (runM E f V n m))))=(true,some (l.map e,i.toNat),some (e b)):=by kernel_rfl):Mh E f V Q m:=by
 simp only [Prod.mk.injEq] at K;obtain ⟨h1,h2,h3⟩:=K;have h4:Aed E (mF (runM E f V n m)) (mO (runM E f V n m))=some ((lstS (lstX E (mF (runM E f V n m)) (mO (runM E f V n m))),.own ((lset l i b).map e)),[]):=by
  have:=Bbj (i:=i.toNat) h2 (cs:=e a) (by rw [List.getElem?_map,(Adq h).2];rfl) h3;have h5:(l.map e).set i.toNat (e b)=(lset l i b).map e:=by unfold lset;rw [List.map_set]
  rw [h5] at this;exact this
 exact runK n m ⟨Bim h1 (by unfold effC;simp only [h4]) k.out⟩
end
end Go.Own
namespace Go.Own
open D
section
variable {E:Env} {f:Nat} {V:List Nat} {Q:Ex->Fr->Prop} {m:Mc} {α ρ:Type}
end
end Go.Own
namespace Go.Own
open D
end Go.Own
