/- An interpreter of function bodies, sound. No conditions. -/
import Derived.Test.YtockohmmmlhhfabGreatDoorOwn21
set_option linter.all false
namespace Go.Own
open D
section
variable {E:Env} {f:Nat} {V:List Nat} {Q:Ex->Fr->Prop} {m:Mc} {α:Type} {A B:Prop} {c:Prop} [Decidable c]
theorem mIn {body:Code} {p:List Nat} {F:Fr} (h:Mh E f V Q (.pt (go body p []) F)):Pt E f V body p F Q:=h.out
theorem mFin (n:Nat) {body:Code} {p:List Nat} {F:Fr} (h:Pt E f V body p F Q) (K:runM E f V n m=.pt (go body p []) F:=by kernel_rfl):Mh E f V Q m:=by
 refine runK n m ?_;rw [K];exact ⟨h⟩
def mLv (E:Env) (f:Nat) (V:List Nat):Mc->Fr
 | .pt (.exit id,_) F=>trim E f V 3 id F
 | .pt _ F=>F
 | .op id _ _ _ _ s=>trim E f V 0 id (norm V s.2)
 | .bad=>[]
def mEnd:Mc->Bool
 | .pt (.ret,_) _=>true
 | .pt (.skip,ks) _=>(Aee ks).isNone
 | .pt (.exit id,ks) _=>match Ahw id ks with
  | some ks'=>(Aee ks').isNone
  | none=>false
 | .op _ ops _ ks j _=>Nat.beq ops.size j&&(Aee ks).isNone
 | _=>false
theorem mRet (n:Nat) {fd:Func} {N:Nat} {ρ:Type} {res:ρ->D×List D} {φ:ρ->Prop} {r:ρ} (h:φ r) (hl:Af0 E f fd N (mLv E f V (runM E f V n m))=some (res r):=by kernel_rfl) (K:mEnd (runM E f V n m)=true:=by kernel_rfl):Mh E f V (Lv E f fd N res φ) m:=by
 refine runK n m ?_;generalize runM E f V n m=m' at hl K;cases m' with
 | bad=>cases K
 | pt c F=>
  obtain ⟨c,ks⟩:=c;cases c with
  | ret=>exact ⟨To.ret (Anp ⟨r,hl,h⟩)⟩
  | skip=>
   simp only [mEnd,Option.isNone_iff_eq_none] at K;exact ⟨To.skip (Ano K ⟨r,hl,h⟩)⟩
  | exit id=>
   simp only [mEnd] at K
   split at K
   ·rename_i ks' hk;rw [Option.isNone_iff_eq_none] at K;exact ⟨To.exit (Aii hk (Ano K ⟨r,hl,h⟩))⟩
   ·cases K
  | _=>cases K
 | op id ops draw ks j s=>
  simp only [mEnd,Bool.and_eq_true,Option.isNone_iff_eq_none] at K;have hj:ops.size=j:=Nat.eq_of_beq_eq_true K.1;refine ⟨s.2,⟨0,fun n _=>?_⟩,Ano K.2 ⟨r,hl,h⟩⟩;rw [List.drop_eq_nil_iff.2 (by simp [hj])];simp only [Ajn,Abz,opsC,ite_self]
theorem mEnt {fd:Func} {body:Code} {ds:List D} {ρ:Type} {res:ρ->D×List D} {φ:ρ->Prop} (h:Mh E f V (Lv E f fd ds.length res φ) (.pt (dn body []) (norm V (Adj E f 0 ds))))
  (hp:E.prim f=none:=by kernel_rfl) (hf:E.P.funcs[f]? = some fd:=by kernel_rfl) (hb:fd.body=some body:=by kernel_rfl) (hl:(Nat.ble ds.length fd.ntmps&&Nat.blt fd.ntmps 1000000)=true:=by kernel_rfl) (hV:E.vars f++Ac3 E f 0 ds.length=V:=by kernel_rfl):∃ r,φ r/\Ret E f ds (res r).1 (res r).2:=by
 subst hV;rw [Bool.and_eq_true] at hl;obtain ⟨e,F1,h1,h2⟩:=Aic body [] h.out;simp only [kTo] at h2;have hl':ds.length<=fd.ntmps/\fd.ntmps<1000000:=⟨Nat.le_of_ble_eq_true hl.1,Nat.le_of_ble_eq_true hl.2⟩
 cases e with
 | exit i=>exact h2.elim
 | normal=>obtain ⟨r,h3,h4⟩:=h2;exact ⟨r,h4,Ret.of_to hp hf hb hl' rfl ⟨_,F1,h1,h3⟩⟩
 | ret=>obtain ⟨r,h3,h4⟩:=h2;exact ⟨r,h4,Ret.of_to hp hf hb hl' rfl ⟨_,F1,h1,h3⟩⟩
theorem mVl (n:Nat) {d:D} (hv:valC E f Acf (mF (runM E f V n m)) (mO (runM E f V n m))=some d) (k:Mh E f V Q (mVal (runM E f V n m) d)) (K:valM (runM E f V n m)=true:=by kernel_rfl):Mh E f V Q m:=
 runK n m ⟨Bh3 K hv k.out⟩
theorem mOp (n:Nat) {F':Fr} (hv:opC E f V Acf (mS (runM E f V n m)) (mO (runM E f V n m))=some F') (k:Mh E f V Q (mSet (runM E f V n m) F')) (K:opM (runM E f V n m)=true:=by kernel_rfl):Mh E f V Q m:=
 runK n m ⟨m_op K hv k.out⟩
theorem mAsk (n:Nat) {b:Bool} (h:if c then A else B) (tp:b=true->c) (fp:b=false->¬ c)
  (k1:A->Mh E f V Q (mVal (runM E f V n m) (lit (.bool true)))) (k2:B->Mh E f V Q (mVal (runM E f V n m) (lit (.bool false))))
  (hv:valC E f Acf (mF (runM E f V n m)) (mO (runM E f V n m))=some (lit (.bool b)):=by kernel_rfl) (K:valM (runM E f V n m)=true:=by kernel_rfl):Mh E f V Q m:=by
 cases b with
 | true=>rw [if_pos (tp rfl)] at h;exact mVl n hv (k1 h) K
 | false=>rw [if_neg (fp rfl)] at h;exact mVl n hv (k2 h) K
theorem Adn (n:Nat) {b:Bool} (h:if c then A else B) (tp:b=true->¬ c) (fp:b=false->c)
  (k1:B->Mh E f V Q (mVal (runM E f V n m) (lit (.bool true)))) (k2:A->Mh E f V Q (mVal (runM E f V n m) (lit (.bool false))))
  (hv:valC E f Acf (mF (runM E f V n m)) (mO (runM E f V n m))=some (lit (.bool b)):=by kernel_rfl) (K:valM (runM E f V n m)=true:=by kernel_rfl):Mh E f V Q m:=by
 cases b with
 | true=>rw [if_neg (tp rfl)] at h;exact mVl n hv (k1 h) K
 | false=>rw [if_pos (fp rfl)] at h;exact mVl n hv (k2 h) K
def Atm (E:Env):Mc->Option D
 | .pt (.cond y _ _,_) F=>opd E F y
 | _=>none
def mBr (E:Env) (f:Nat) (V:List Nat) (t:Bool):Mc->Mc
 | .pt (.cond y a b,ks) F=>bif t then .pt (dn a ks) (trim E f V 1 (Ahe y) F) else .pt (dn b ks) (trim E f V 2 (Ahe y) F)
 | _=>.bad
theorem m_br {b:Bool} (hv:Atm E m=some (lit (.bool b))) (k:Mh E f V Q (mBr E f V b m)):Mh E f V Q m:=by
 refine ⟨Ap6 m ?_⟩;unfold Atm at hv
 split at hv
 ·simp only [Ai2,hv];exact k.out
 ·cases hv
theorem mCon (n:Nat) {b:Bool} (h:if c then A else B) (tp:b=true->c) (fp:b=false->¬ c)
  (k1:A->Mh E f V Q (mBr E f V true (runM E f V n m))) (k2:B->Mh E f V Q (mBr E f V false (runM E f V n m)))
  (hv:Atm E (runM E f V n m)=some (lit (.bool b)):=by kernel_rfl):Mh E f V Q m:=by
 refine runK n m ?_;cases b with
 | true=>rw [if_pos (tp rfl)] at h;exact m_br hv (k1 h)
 | false=>rw [if_neg (fp rfl)] at h;exact m_br hv (k2 h)
theorem Atp (n:Nat) {b:Bool} (h:if c then A else B) (tp:b=true->¬ c) (fp:b=false->c)
  (k1:B->Mh E f V Q (mBr E f V true (runM E f V n m))) (k2:A->Mh E f V Q (mBr E f V false (runM E f V n m)))
  (hv:Atm E (runM E f V n m)=some (lit (.bool b)):=by kernel_rfl):Mh E f V Q m:=by
 refine runK n m ?_;cases b with
 | true=>rw [if_neg (tp rfl)] at h;exact m_br hv (k1 h)
 | false=>rw [if_pos (fp rfl)] at h;exact m_br hv (k2 h)
def exK:Mc->Nat
 | .pt (.exit id,_) _=>id
 | _=>0
def exN:Mc->Option (Code×List Kt)
 | .pt (.exit id,ks) _=>match Ahw id ks with
  | some ks'=>Aee ks'
  | none=>none
 | _=>none
theorem mXit (n:Nat) (F':Fr) (hF:trim E f V 3 (exK (runM E f V n m)) (mS (runM E f V n m))=F') (k:Mh E f V Q (.pt ((exN (runM E f V n m)).getD (.ret,[])) F')) (K:(exN (runM E f V n m)).isSome=true:=by kernel_rfl):Mh E f V Q m:=by
 refine runK n m ⟨Ap6 _ ?_⟩;generalize runM E f V n m=m' at hF k K;unfold exN at k K
 split at k
 ·simp only [exK,mS] at hF;simp only at k K;simp only [Ai2]
  split at k
  ·rename_i hks;rw [hks] at K;simp only [hks];obtain ⟨c,hc⟩:=Option.isSome_iff_exists.1 K;simp only at hc;rw [hc] at k;simp only [hc,hF];exact k.out
  ·rename_i hks;rw [hks] at K;cases K
 ·simp only at K;cases K
def asI:Option D->Option Int
 | some (lit (.int _ n))=>some n
 | _=>none
theorem Al1 {d:Option D} {i:Int} (h:asI d=some i):∃ q,d=some (lit (.int q i)):=by
 unfold asI at h
 split at h
 ·rename_i q n;simp only [zJ] at h;subst h;exact ⟨q,rfl⟩
 ·cases h
def ixB (E:Env) (F:Fr) (o:Oper):Option (List (List D)×Int×Nat):=match o.op with
 | .indexAddr t x ix=>match opd E F x,asI (opd E F ix),sliceT E.P t with
  | some (sl es),some i,some et=>some (es,i,sizeT E.P et)
  | some (alias s ps),some i,some et=>match getAt F s ps with
   | some (sl es)=>some (es,i,sizeT E.P et)
   | _=>none
  | _,_,_=>none
 | _=>none
theorem Bca {F:Fr} {o:Oper} {e:Enc α} {l:List α} {i:Int} {k:Nat} {a:α} (hB:ixB E F o=some (l.map e,i,k)) (h:lget l i=some a) (hk:(e a).length=k):valC E f Acf F o=some (.ref (e a)):=by
 unfold ixB at hB
 split at hB
 ·rename_i t x ix ho
  split at hB
  ·rename_i es i' et hx hi ht;simp only [zJ,Prod.mk.injEq] at hB;obtain ⟨rfl,rfl,rfl⟩:=hB;obtain ⟨q,hq⟩:=Al1 hi;exact Aye ho hx hq ht rfl h hk
  ·rename_i s ps i' et hx hi ht
   split at hB
   ·rename_i es hg;simp only [zJ,Prod.mk.injEq] at hB;obtain ⟨rfl,rfl,rfl⟩:=hB;obtain ⟨q,hq⟩:=Al1 hi;exact Avb ho hx hg hq ht rfl h hk
   ·cases hB
  ·cases hB
 ·cases hB
theorem mIxf (n:Nat) (e:Enc α) {l:List α} {i:Int} {a:α} (h:lget l i=some a)
  (k:Mh E f V Q (mVal (runM E f V n m) (.ref (e a))))
  (K:(valM (runM E f V n m),ixB E (mF (runM E f V n m)) (mO (runM E f V n m)))=(true,some (l.map e,i,(e a).length)):=by kernel_rfl):Mh E f V Q m:=by
 simp only [Prod.mk.injEq] at K;exact mVl n (Bca K.2 h rfl) k K.1
theorem mIx (n:Nat) (e:Enc α) {l:List α} {i:Int} {R:α->Prop} (h:∃ a,lget l i=some a/\R a)
  (k:∀ a,lget l i=some a->R a->Mh E f V Q (mVal (runM E f V n m) (.ref (e a))))
  (K:∀ a,(valM (runM E f V n m),ixB E (mF (runM E f V n m)) (mO (runM E f V n m)))=(true,some (l.map e,i,(e a).length)):=by intro;kernel_rfl):Mh E f V Q m:=by
 obtain ⟨a,h1,h2⟩:=h;exact mIxf n e h1 (k a h1 h2) (K a)
def ixP (E:Env) (F:Fr) (o:Oper):Option (Nat×Path×List (List D)×Int×Nat):=match o.op with
 | .indexAddr t x ix=>match opd E F x,asI (opd E F ix),sliceT E.P t with
  | some (alias s ps),some i,some et=>match getAt F s ps with
   | some (own es)=>some (s,ps,es,i,sizeT E.P et)
   | _=>none
  | _,_,_=>none
 | _=>none
def ixR (x:Option (Nat×Path×List (List D)×Int×Nat)):Option (List (List D)×Int×Nat):=x.map fun y=>y.2.2
def ixD (x:Option (Nat×Path×List (List D)×Int×Nat)) (i:Int):D:=match x with
 | some (s,ps,_,_,_)=>.place s ps i.toNat 0
 | none=>.undef
theorem Bcb {F:Fr} {o:Oper} {e:Enc α} {l:List α} {i:Int} {k:Nat} {a:α} (hB:ixR (ixP E F o)=some (l.map e,i,k)) (h:lget l i=some a) (hk:(e a).length=k):valC E f Acf F o=some (ixD (ixP E F o) i):=by
 obtain ⟨⟨s,ps,es,i',k'⟩,h1,h2⟩:=Option.map_eq_some_iff.1 hB;simp only [Prod.mk.injEq] at h2;obtain ⟨rfl,rfl,rfl⟩:=h2;rw [h1];unfold ixP at h1
 split at h1
 ·rename_i t x ix ho
  split at h1
  ·rename_i s' ps' i2 et hx hi ht
   split at h1
   ·rename_i es hg;simp only [zJ,Prod.mk.injEq] at h1;obtain ⟨rfl,rfl,rfl,rfl,rfl⟩:=h1;obtain ⟨q,hq⟩:=Al1 hi;exact Ayd ho hx hg hq ht rfl h hk
   ·cases h1
  ·cases h1
 ·cases h1
theorem mIyf (n:Nat) (e:Enc α) {l:List α} {i:Int} {a:α} (h:lget l i=some a)
  (k:Mh E f V Q (mVal (runM E f V n m) (ixD (ixP E (mF (runM E f V n m)) (mO (runM E f V n m))) i)))
  (K:(valM (runM E f V n m),ixR (ixP E (mF (runM E f V n m)) (mO (runM E f V n m))))=(true,some (l.map e,i,(e a).length)):=by kernel_rfl):Mh E f V Q m:=by
 simp only [Prod.mk.injEq] at K;exact mVl n (Bcb K.2 h rfl) k K.1
theorem mIy (n:Nat) (e:Enc α) {l:List α} {i:Int} {R:α->Prop} (h:∃ a,lget l i=some a/\R a)
  (k:∀ a,lget l i=some a->R a->Mh E f V Q (mVal (runM E f V n m) (ixD (ixP E (mF (runM E f V n m)) (mO (runM E f V n m))) i)))
  (K:∀ a,(valM (runM E f V n m),ixR (ixP E (mF (runM E f V n m)) (mO (runM E f V n m))))=(true,some (l.map e,i,(e a).length)):=by intro;kernel_rfl):Mh E f V Q m:=by
 obtain ⟨a,h1,h2⟩:=h;exact mIyf n e h1 (k a h1 h2) (K a)
def ldB (E:Env) (F:Fr) (o:Oper):Option (List (List D)×Nat):=match o.op with
 | .load t x=>match opd E F x with
  | some (place s ps n _)=>match getAt F s ps with
   | some (own es)=>bif (E.P.underlying t).isNone then none else some (es,n)
   | _=>none
  | _=>none
 | _=>none
def ldD (E:Env) (F:Fr) (o:Oper) (cs:List D):Option D:=match o.op with
 | .load t x=>match opd E F x with
  | some (place s ps n c)=>if c+sizeT E.P t<=cs.length then ofCells (isAggT E.P t) (viewCells s ps n c ((cs.drop c).take (sizeT E.P t))) else none
  | _=>none
 | _=>none
theorem Bde {F:Fr} {o:Oper} {e:Enc α} {l:List α} {n:Nat} {a:α} {d:D} (hB:ldB E F o=some (l.map e,n)) (h:l[n]? = some a) (hd:ldD E F o (e a)=some d):valC E f Acf F o=some d:=by
 unfold ldB at hB;unfold ldD at hd
 split at hB
 ·rename_i t x ho;simp only [ho] at hd
  split at hB
  ·rename_i s ps n' c hx;simp only [hx] at hd
   split at hB
   ·rename_i es hg;cases hu:(E.P.underlying t).isNone with
    | true=>rw [hu] at hB;cases hB
    | false=>
     rw [hu] at hB;simp only [cond_false,zJ,Prod.mk.injEq] at hB;obtain ⟨rfl,rfl⟩:=hB;exact Awb ho hx hg hu h hd
   ·cases hB
  ·cases hB
 ·cases hB
theorem mLd (n:Nat) (e:Enc α) {l:List α} {i:Int} {a:α} (h:lget l i=some a)
  (k:Mh E f V Q (mVal (runM E f V n m) ((ldD E (mF (runM E f V n m)) (mO (runM E f V n m)) (e a)).getD .undef)))
  (K:(valM (runM E f V n m),ldB E (mF (runM E f V n m)) (mO (runM E f V n m)),(ldD E (mF (runM E f V n m)) (mO (runM E f V n m)) (e a)).isSome)=(true,some (l.map e,i.toNat),true):=by kernel_rfl):Mh E f V Q m:=by
 simp only [Prod.mk.injEq] at K;obtain ⟨d,hd⟩:=Option.isSome_iff_exists.1 K.2.2;rw [hd] at k;exact mVl n (Bde K.2.1 (Adm h).2 hd) k K.1
def lenB (E:Env) (F:Fr) (o:Oper):Option (List (List D)):=match o.op with
 | .call c=>match c.callee,c.args.toList,c.argTypes.toList with
  | .builtin .len,[x],[t]=>match opd E F x,sliceT E.P t with
   | some d,some _=>elemsOf F d
   | _,_=>none
  | _,_,_=>none
 | _=>none
theorem Bb1 {F:Fr} {o:Oper} {e:Enc α} {l:List α} (hB:lenB E F o=some (l.map e)):valC E f Acf F o=some (.lit (.int .i64 l.length)):=by
 unfold lenB at hB
 split at hB
 ·rename_i c ho
  split at hB
  ·rename_i x t hc ha ht
   split at hB
   ·rename_i d et hx hs;obtain ⟨cal,ags,tys⟩:=c;simp only at hc ha ht;obtain ⟨ags⟩:=ags;obtain ⟨tys⟩:=tys;simp only at ha ht;subst ha;subst ht;subst hc;exact Ao1 ho hx hB hs
   ·cases hB
  ·cases hB
 ·cases hB
theorem mLen (n:Nat) (e:Enc α) (l:List α) (k:Mh E f V Q (mVal (runM E f V n m) (.lit (.int .i64 l.length))))
  (K:(valM (runM E f V n m),lenB E (mF (runM E f V n m)) (mO (runM E f V n m)))=(true,some (l.map e)):=by kernel_rfl):Mh E f V Q m:=by
 simp only [Prod.mk.injEq] at K;exact mVl n (Bb1 K.2) k K.1
def stB (E:Env) (F:Fr) (o:Oper):Option (ByteArray×Int):=match o.op with
 | .index t x ix=>match opd E F x,asI (opd E F ix),E.P.underlying t with
  | some (lit (.string s)),some i,some .string=>some (s,i)
  | _,_,_=>none
 | _=>none
theorem mSt (n:Nat) {s:ByteArray} {i:Int} {R:UInt8->Prop} (h:∃ b,(0<=i/\s[i.toNat]? = some b)/\R b)
  (k:∀ b,R b->Mh E f V Q (mVal (runM E f V n m) (.lit (.int .u8 b.toNat))))
  (K:(valM (runM E f V n m),stB E (mF (runM E f V n m)) (mO (runM E f V n m)))=(true,some (s,i)):=by kernel_rfl):Mh E f V Q m:=by
 obtain ⟨b,⟨h0,h1⟩,h2⟩:=h;simp only [Prod.mk.injEq] at K;refine mVl n ?_ (k b h2) K.1;have hB:=K.2;generalize mF (runM E f V n m)=F at hB;generalize mO (runM E f V n m)=o at hB;unfold stB at hB
 split at hB
 ·rename_i t x ix ho
  split at hB
  ·rename_i s' i' hx hi ht;simp only [zJ,Prod.mk.injEq] at hB;obtain ⟨rfl,rfl⟩:=hB;obtain ⟨q,hq⟩:=Al1 hi;exact Ba5 ho hx hq ht h0 h1
  ·cases hB
 ·cases hB
def biB (E:Env) (F:Fr) (o:Oper):Option (BinOp×Nat×D×D):=match o.op with
 | .binOp op t x y _=>match opd E F x,opd E F y with
  | some a,some b=>some (op,t,a,b)
  | _,_=>none
 | _=>none
theorem mBi (n:Nat) {op:BinOp} {t:Nat} {d1 d2 d:D} (hd:binD E op t d1 d2=some d) (k:Mh E f V Q (mVal (runM E f V n m) d))
  (K:(valM (runM E f V n m),biB E (mF (runM E f V n m)) (mO (runM E f V n m)))=(true,some (op,t,d1,d2)):=by kernel_rfl):Mh E f V Q m:=by
 simp only [Prod.mk.injEq] at K;refine mVl n ?_ k K.1;have hB:=K.2;generalize mF (runM E f V n m)=F at hB;generalize mO (runM E f V n m)=o at hB;unfold biB at hB
 split at hB
 ·rename_i op' t' x y ty ho
  split at hB
  ·rename_i a b ha hb;simp only [zJ,Prod.mk.injEq] at hB;obtain ⟨rfl,rfl,rfl,rfl⟩:=hB;exact Bdt ho ha hb hd
  ·cases hB
 ·cases hB
end
end Go.Own
namespace Go.Own
open D
section
variable {E:Env} {f:Nat} {V:List Nat} {Q:Ex->Fr->Prop} {m:Mc} {α ρ:Type}
def cX (o:Oper):Operand:=(Aid o.op).getD (.const undef)
def Atl (E:Env) (F:Fr) (o:Oper):List D:=match opd E F (cX o) with
 | some (fn _ cs)=>cs
 | _=>[]
def cA (E:Env) (F:Fr) (o:Oper):List Arg:=argsOf (Ak9 o.op) (Atl E F o).length
def cMs (E:Env) (g:Nat) (F:Fr) (A:List Arg):List (Option D):=match passMoves E g 0 F A with
 | some (ms,_)=>ms
 | none=>[]
def cL (E:Env) (g:Nat) (F:Fr) (x:Operand) (A:List Arg):Option (Nat×Path):=(lentFrom E g F x 0 A).getD none
def cLd (F:Fr) (l:Option (Nat×Path)):Option D:=match holeC F l with
 | some (d,_)=>d
 | none=>none
structure Cl where
 x:Operand
 caps:List D
 agl:List Arg
 ms:List (Option D)
 f1:Fr
 l:Option (Nat×Path)
 ld:Option D
 f2:Fr
def clOf (E:Env) (g:Nat) (F:Fr) (o:Oper):Cl:=
 {x:=cX o,caps:=Atl E F o,agl:=cA E F o,ms:=cMs E g F (cA E F o),f1:=pmF E g F (cA E F o),l:=cL E g (pmF E g F (cA E F o)) (cX o) (cA E F o),
  ld:=cLd (pmF E g F (cA E F o)) (cL E g (pmF E g F (cA E F o)) (cX o) (cA E F o)),f2:=hoF (pmF E g F (cA E F o)) (cL E g (pmF E g F (cA E F o)) (cX o) (cA E F o)) }
def fnIs (g:Nat):Option D->Bool
 | some (fn g' _)=>Nat.beq g' g
 | _=>false
def clOK (E:Env) (g:Nat) (F:Fr) (o:Oper) (outs:List D):Bool:=
 (Aid o.op).isSome&&fnIs g (opd E F (cX o))&&(passMoves E g 0 F (cA E F o)).isSome&&(lentFrom E g (clOf E g F o).f1 (cX o) 0 (cA E F o)).isSome&&(holeC (clOf E g F o).f1 (clOf E g F o).l).isSome&&(giveBack (clOf E g F o).f1 (clOf E g F o).l outs).isSome
theorem Ant {g:Nat} {ds outs:List D} {r r':D} (hok:opM m=true) (hc:clOK E g (mS m) (mO m) outs=true)
  (hr:passRest E g (clOf E g (mS m) (mO m)).f1 (clOf E g (mS m) (mO m)).f2 (clOf E g (mS m) (mO m)).x (clOf E g (mS m) (mO m)).ld 0 (clOf E g (mS m) (mO m)).agl (clOf E g (mS m) (mO m)).ms=some ds) (hret:Ret E g ds r outs)
  (hf:(if r.flatR&&outs.all flat then some (clOf E g (mS m) (mO m)).f1 else frzAll (clOf E g (mS m) (mO m)).f1 (snapSrcs E g (clOf E g (mS m) (mO m)).f1 (clOf E g (mS m) (mO m)).x 0 (clOf E g (mS m) (mO m)).agl))=some (clOf E g (mS m) (mO m)).f1)
  (hcold:coldD (E.eager f ((mO m).dst.getD 0)) r=some r')
  (k:Mh E f V Q (mSet m (fin (gbF (clOf E g (mS m) (mO m)).f1 (clOf E g (mS m) (mO m)).l outs) (mO m).dst r'))):Mh E f V Q m:=by
 obtain ⟨N,hN⟩:=hret;refine ⟨m_op' hok ⟨N,fun n hn=>?_⟩ k.out⟩;generalize mS m=F at *;generalize mO m=o at *;simp only [clOK,Bool.and_eq_true] at hc;obtain ⟨⟨⟨⟨⟨hc,hfn⟩,hm⟩,hl⟩,hh⟩,hg⟩:=hc;obtain ⟨x,hx⟩:=Option.isSome_iff_exists.1 hc;obtain ⟨⟨ms,F1⟩,hm⟩:=Option.isSome_iff_exists.1 hm;obtain ⟨l,hl⟩:=Option.isSome_iff_exists.1 hl;obtain ⟨⟨ld,F2⟩,hh⟩:=Option.isSome_iff_exists.1 hh;obtain ⟨F4,hg⟩:=Option.isSome_iff_exists.1 hg;have ex:cX o=x:=by unfold cX;rw [hx];rfl
 have ef:(clOf E g F o).f1=F1:=by simp only [clOf,pmF,hm]
 have em:(clOf E g F o).ms=ms:=by simp only [clOf,cMs,hm]
 have el:(clOf E g F o).l=l:=by
  have:(clOf E g F o).l=cL E g (clOf E g F o).f1 (cX o) (cA E F o):=rfl;rw [this];simp only [cL,hl];rfl
 have eh:(clOf E g F o).ld=ld:=by
  have:(clOf E g F o).ld=cLd (clOf E g F o).f1 (clOf E g F o).l:=rfl;rw [this];simp only [cLd,hh]
 have e2:(clOf E g F o).f2=F2:=by
  have:(clOf E g F o).f2=hoF (clOf E g F o).f1 (clOf E g F o).l:=rfl;rw [this];simp only [hoF,hh]
 have egb:gbF (clOf E g F o).f1 (clOf E g F o).l outs=F4:=by simp only [gbF,hg];rfl
 obtain ⟨caps,hfn⟩:∃ caps,opd E F (cX o)=some (fn g caps):=by
  unfold fnIs at hfn
  split at hfn
  ·rename_i g' cs h;rw [Nat.eq_of_beq_eq_true hfn] at h;exact ⟨cs,h⟩
  ·cases hfn
 have ea:(clOf E g F o).agl=argsOf (Ak9 o.op) caps.length:=by simp only [clOf,cA,Atl,hfn]
 have eX:(clOf E g F o).x=x:=ex;rw [egb];rw [ef,e2,eX,eh,em,ea] at hr;rw [ef,eX,ea] at hf;have ea':cA E F o=argsOf (Ak9 o.op) caps.length:=ea;rw [ea'] at hm;rw [ef,ex,ea'] at hl;rw [ef,el] at hh hg;rw [ex] at hfn;unfold opC;unfold Aid at hx
 split at hx
 ·rename_i c hop
  split at hx
  ·rename_i y hcl;simp only [zJ] at hx;subst hx;simp only [hop,hcl,hfn];simp only [Ak9,hop] at hm hl hr hf;have:callC E (Ab8 E n) F g y (argsOf c.args.toList caps.length)=some (r,F4):=by
    unfold callC;simp only [hm,hl,hh,hr,hN n hn,hf,hg,Option.map_some]
   simp only [this,Option.bind_some,hcold,Option.map_some]
  ·cases hx
 ·cases hx
def mCl (E:Env) (g:Nat) (m:Mc) (outs:List D) (r:D):Mc:=mSet m (fin (gbF (clOf E g (mS m) (mO m)).f1 (clOf E g (mS m) (mO m)).l outs) (mO m).dst r)
def clR (E:Env) (g:Nat) (m:Mc):Option (List D):=passRest E g (clOf E g (mS m) (mO m)).f1 (clOf E g (mS m) (mO m)).f2 (clOf E g (mS m) (mO m)).x (clOf E g (mS m) (mO m)).ld 0 (clOf E g (mS m) (mO m)).agl (clOf E g (mS m) (mO m)).ms
def clF (E:Env) (g:Nat) (m:Mc) (r:D) (outs:List D):Option Fr:=if r.flatR&&outs.all flat then some (clOf E g (mS m) (mO m)).f1 else frzAll (clOf E g (mS m) (mO m)).f1 (snapSrcs E g (clOf E g (mS m) (mO m)).f1 (clOf E g (mS m) (mO m)).x 0 (clOf E g (mS m) (mO m)).agl)
def clE (E:Env) (f:Nat) (m:Mc):Bool:=E.eager f ((mO m).dst.getD 0)
theorem Ac4 {g:Nat} {r:D} {outs:List D} (h1:r.flat=true) (h2:outs.all flat=true:=by kernel_rfl):clF E g m r outs=some (clOf E g (mS m) (mO m)).f1:=by
 unfold clF;rw [flatR_of h1,h2];rfl
theorem As7 {g:Nat} {r d:D} (h1:r.flat=true) (h2:d.flat=true):clF E g m r [d]=some (clOf E g (mS m) (mO m)).f1:=Ac4 h1 (by simp only [List.all_cons,h2,List.all_nil,Bool.and_self])
theorem Ab7 {g:Nat} {r:D} {outs:List D} (h:frzAll (clOf E g (mS m) (mO m)).f1 (snapSrcs E g (clOf E g (mS m) (mO m)).f1 (clOf E g (mS m) (mO m)).x 0 (clOf E g (mS m) (mO m)).agl)=some (clOf E g (mS m) (mO m)).f1:=by kernel_rfl):clF E g m r outs=some (clOf E g (mS m) (mO m)).f1:=by
 unfold clF;exact Baw h
theorem mCal (n:Nat) {g:Nat} {P:ρ->Prop} {R:ρ->Prop} {res:ρ->D} {outs:ρ->List D} {ds:List D} (h:∃ r,P r/\R r) (hP:∀ r,P r->Ret E g ds (res r) (outs r))
  (k:∀ r,P r->R r->Mh E f V Q (mCl E g (runM E f V n m) (outs r) (res r)))
  (K:∀ r,(opM (runM E f V n m),clOK E g (mS (runM E f V n m)) (mO (runM E f V n m)) (outs r),clE E f (runM E f V n m))=(true,true,false):=by intro;kernel_rfl)
  (hr:clR E g (runM E f V n m)=some ds:=by kernel_rfl)
  (hf:∀ r,clF E g (runM E f V n m) (res r) (outs r)=some (clOf E g (mS (runM E f V n m)) (mO (runM E f V n m))).f1:=by intro;kernel_rfl):Mh E f V Q m:=by
 obtain ⟨r,h1,h2⟩:=h;have K:=K r;simp only [Prod.mk.injEq] at K;refine runK n m (Ant K.1 K.2.1 hr (hP r h1) (hf r) ?_ (k r h1 h2));have:=K.2.2;unfold clE at this;rw [this];rfl
abbrev dT {p:Prop} [Decidable p]:decide p=true->p:=of_decide_eq_true
abbrev dF {p:Prop} [Decidable p]:decide p=false->¬ p:=of_decide_eq_false
theorem Ajk (n:Nat) {g:Nat} {P:ρ->Prop} {R:ρ->Prop} {res res':ρ->D} {outs:ρ->List D} {ds:List D} (h:∃ r,P r/\R r) (hP:∀ r,P r->Ret E g ds (res r) (outs r)) (hc:∀ r,coldD true (res r)=some (res' r))
  (k:∀ r,P r->R r->Mh E f V Q (mCl E g (runM E f V n m) (outs r) (res' r)))
  (K:∀ r,(opM (runM E f V n m),clOK E g (mS (runM E f V n m)) (mO (runM E f V n m)) (outs r),clE E f (runM E f V n m))=(true,true,true):=by intro;kernel_rfl)
  (hr:clR E g (runM E f V n m)=some ds:=by kernel_rfl)
  (hf:∀ r,clF E g (runM E f V n m) (res r) (outs r)=some (clOf E g (mS (runM E f V n m)) (mO (runM E f V n m))).f1:=by intro;kernel_rfl):Mh E f V Q m:=by
 obtain ⟨r,h1,h2⟩:=h;have K:=K r;simp only [Prod.mk.injEq] at K;refine runK n m (Ant K.1 K.2.1 hr (hP r h1) (hf r) ?_ (k r h1 h2));have:=K.2.2;unfold clE at this;rw [this];exact hc r
theorem Aba (n:Nat) {g:Nat} {P A B:Bool->Prop} {ds:List D} (h:∃ r,P r/\(if r=true then A r else B r)) (hP:∀ r,P r->Ret E g ds (lit (.bool r)) [])
  (k1:P true->A true->Mh E f V Q (mCl E g (runM E f V n m) [] (lit (.bool true)))) (k2:P false->B false->Mh E f V Q (mCl E g (runM E f V n m) [] (lit (.bool false))))
  (K:(opM (runM E f V n m),clOK E g (mS (runM E f V n m)) (mO (runM E f V n m)) [])=(true,true):=by kernel_rfl)
  (hr:clR E g (runM E f V n m)=some ds:=by kernel_rfl):Mh E f V Q m:=by
 obtain ⟨r,h1,h2⟩:=h;simp only [Prod.mk.injEq] at K;have hcold:∀ b x,coldD b (lit (.bool x))=some (lit (.bool x)):=by intro b x;cases b<;>rfl
 cases r with
 | true=>exact runK n m (Ant K.1 K.2 hr (hP _ h1) (Ac4 rfl rfl) (hcold _ _) (k1 h1 (by simpa using h2)))
 | false=>exact runK n m (Ant K.1 K.2 hr (hP _ h1) (Ac4 rfl rfl) (hcold _ _) (k2 h1 (by simpa using h2)))
theorem Bh1 (n:Nat) {g:Nat} {ds outs:List D} {r:D} (hP:Ret E g ds r outs)
  (k:Mh E f V Q (mCl E g (runM E f V n m) outs r))
  (K:(opM (runM E f V n m),clOK E g (mS (runM E f V n m)) (mO (runM E f V n m)) outs,clE E f (runM E f V n m))=(true,true,false):=by kernel_rfl)
  (hr:clR E g (runM E f V n m)=some ds:=by kernel_rfl)
  (hf:clF E g (runM E f V n m) r outs=some (clOf E g (mS (runM E f V n m)) (mO (runM E f V n m))).f1:=by kernel_rfl):Mh E f V Q m:=
 mCal (ρ:=Unit) (P:=fun _=>True) (R:=fun _=>True) (res:=fun _=>r) (outs:=fun _=>outs) n ⟨(),trivial,trivial⟩ (fun _ _=>hP) (fun _ _ _=>k) (fun _=>K) hr (fun _=>hf)
def loR (E:Env) (g:Nat) (m:Mc):Option (List D):=passRest E g (mF m) (mF m) (cX (mO m)) none 0 (cA E (mF m) (mO m)) ((cA E (mF m) (mO m)).map fun _=>none)
def loOK (E:Env) (g:Nat) (m:Mc):Bool:=looM m&&(Aid (mO m).op).isSome&&fnIs g (opd E (mF m) (cX (mO m)))&&Aiz E g (cA E (mF m) (mO m)).length
def loF (E:Env) (g:Nat) (m:Mc) (r:D):Bool:=r.flatR || (snapSrcs E g (mF m) (cX (mO m)) 0 (cA E (mF m) (mO m))).all (immD (mF m))
theorem Abm {g:Nat} {r:D} (h1:r.flat=true):loF E g m r=true:=by unfold loF;rw [flatR_of h1];rfl
theorem Awm {g:Nat} {ds:List D} {r r':D} (hok:loOK E g m=true) (hr:loR E g m=some ds) (hret:Ret E g ds r []) (hf:loF E g m r=true) (hcold:coldD (E.eager f ((mO m).dst.getD 0)) r=some r') (k:Mh E f V Q (mLoo m r')):Mh E f V Q m:=by
 obtain ⟨N,hN⟩:=hret;cases m with
 | pt c F=>simp [loOK,looM] at hok
 | bad=>simp [loOK,looM] at hok
 | op id ops draw ks j s=>
  have k:=k.out;simp only [mLoo] at k;cases hsf:Ae4 ops s.1 j r' with
  | false=>rw [hsf] at k;exact k.elim
  | true=>
  rw [hsf] at k;refine ⟨MhD.op_step ⟨N,fun n hn=>?_⟩ k⟩;simp only [loOK,Bool.and_eq_true] at hok;obtain ⟨⟨⟨hlo,hc⟩,hfn⟩,hsn⟩:=hok;simp only [looM] at hlo;simp only [mO,mF,loR,loF] at *;unfold Afw
  split at hlo
  ·rename_i o ho;simp only [ho] at hc hfn hsn hr hf hcold;simp only [Bool.and_eq_true,Bool.not_eq_true'] at hlo;obtain ⟨⟨⟨hdr,ha⟩,hw⟩,⟨hs1,hs2⟩,hs3⟩:=hlo;have hw:=Ajh hw;subst hdr;simp only [cond_true,ha,cond_false,frd,Bool.not_false,Bool.and_true] at hw hs1 hc hfn hsn hr hf ⊢;obtain ⟨x,hx⟩:=Option.isSome_iff_exists.1 hc;have ex:cX o=x:=by unfold cX;rw [hx];rfl
   obtain ⟨caps,hfn⟩:∃ caps,opd E (Ab0 (Aa9 ops s.1 j) s.2) (cX o)=some (fn g caps):=by
    unfold fnIs at hfn
    split at hfn
    ·rename_i g' cs h;rw [Nat.eq_of_beq_eq_true hfn] at h;exact ⟨cs,h⟩
    ·cases hfn
   have ea:cA E (Ab0 (Aa9 ops s.1 j) s.2) o=argsOf (Ak9 o.op) caps.length:=by simp only [cA,Atl,hfn]
   rw [ea] at hsn hr hf;rw [ex] at hfn hr hf;have hv:valC E f (Ab8 E n) (Ab0 (Aa9 ops s.1 j) s.2) o=some r':=by
    unfold valC;unfold Aid at hx
    split at hx
    ·rename_i c hop
     split at hx
     ·rename_i y hcl;simp only [zJ] at hx;subst hx;simp only [hop,hcl,hfn];simp only [Ak9,hop] at hsn hr hf;rw [if_pos hsn];simp only [hr,hN n hn,if_pos hf,hcold]
     ·cases hx
    ·cases hx
   simp only [ho,Aak,hw,hv,hs1,hs2,hs3,hsf,Bool.and_self,cond_true]
  ·cases hlo
theorem mLo (n:Nat) {g:Nat} {P:ρ->Prop} {R:ρ->Prop} {res:ρ->D} {ds:List D} (h:∃ r,P r/\R r) (hP:∀ r,P r->Ret E g ds (res r) [])
  (k:∀ r,P r->R r->Mh E f V Q (mLoo (runM E f V n m) (res r)))
  (K:(loOK E g (runM E f V n m),clE E f (runM E f V n m))=(true,false):=by kernel_rfl)
  (hr:loR E g (runM E f V n m)=some ds:=by kernel_rfl)
  (hf:∀ r,loF E g (runM E f V n m) (res r)=true:=by intro;kernel_rfl):Mh E f V Q m:=by
 obtain ⟨r,h1,h2⟩:=h;simp only [Prod.mk.injEq] at K;refine runK n m (Awm K.1 hr (hP r h1) (hf r) ?_ (k r h1 h2));have:=K.2;unfold clE at this;rw [this];rfl
theorem mLoE (n:Nat) {g:Nat} {P:ρ->Prop} {R:ρ->Prop} {res res':ρ->D} {ds:List D} (h:∃ r,P r/\R r) (hP:∀ r,P r->Ret E g ds (res r) []) (hc:∀ r,coldD true (res r)=some (res' r))
  (k:∀ r,P r->R r->Mh E f V Q (mLoo (runM E f V n m) (res' r)))
  (K:(loOK E g (runM E f V n m),clE E f (runM E f V n m))=(true,true):=by kernel_rfl)
  (hr:loR E g (runM E f V n m)=some ds:=by kernel_rfl)
  (hf:∀ r,loF E g (runM E f V n m) (res r)=true:=by intro;kernel_rfl):Mh E f V Q m:=by
 obtain ⟨r,h1,h2⟩:=h;simp only [Prod.mk.injEq] at K;refine runK n m (Awm K.1 hr (hP r h1) (hf r) ?_ (k r h1 h2));have:=K.2;unfold clE at this;rw [this];exact hc r
theorem Aqp {g i:Nat} {F F2:Fr} {x:Operand} {l:Option D} {A:List Arg} {ms:List (Option D)} (hA:A=[]:=by kernel_rfl) (hm:ms=[]:=by kernel_rfl):passRest E g F F2 x l i A ms=some []:=by rw [hA,hm];rfl
theorem Akn {g i:Nat} {F F2:Fr} {x:Operand} {l:Option D} {A:List Arg} {ms:List (Option D)} {d0 d:D} {ds:List D}
  (hs:snapD F2 d0=some d) (h:passRest E g F F2 x l (i+1) A.tail ms.tail=some ds)
  (K:(E.mode g i,argD E F x (A.headD (.cap 0)),A.isEmpty,ms.isEmpty,(ms.headD none).isSome)=(Mode.snap,some d0,false,false,false):=by kernel_rfl):passRest E g F F2 x l i A ms=some (d::ds):=by
 simp only [Prod.mk.injEq] at K;obtain ⟨h1,h2,h3,h4,h5⟩:=K;cases A with
 | nil=>cases h3
 | cons a A=>
  cases ms with
  | nil=>cases h4
  | cons q ms=>
   simp only [List.headD_cons,List.tail_cons] at *;cases q with
   | some _=>cases h5
   | none=>exact Azq h1 h2 hs h
theorem pr_k {g i:Nat} {F F2:Fr} {x:Operand} {l:Option D} {A:List Arg} {ms:List (Option D)} {d:D} {ds:List D}
  (h:passRest E g F F2 x l (i+1) A.tail ms.tail=some ds)
  (K:(E.mode g i,(argD E F x (A.headD (.cap 0))).bind (snapD F2),A.isEmpty,ms.isEmpty,(ms.headD none).isSome)=(Mode.snap,some d,false,false,false):=by kernel_rfl):passRest E g F F2 x l i A ms=some (d::ds):=by
 simp only [Prod.mk.injEq] at K;obtain ⟨h1,h2,h3,h4,h5⟩:=K;obtain ⟨d0,h0,hs⟩:=Option.bind_eq_some_iff.1 h2;exact Akn hs h (by rw [h1,h0,h3,h4,h5])
def apX (E:Env) (F:Fr) (o:Oper):Option (List (List D)×List (List D)×Fr×Nat×Nat):=match o.op with
 | .call c=>match c.callee,c.args.toList,c.argTypes.toList with
  | .builtin .append,[x,y],[t,u]=>match rowT E.P u,sliceT E.P t,takeOp E F x with
   | true,some et,some (own es,F1)=>match newElems E F1 y,zeroT E.P et with
    | some (ys,F2),some z=>bif Nat.beq z.cells.length (sizeT E.P et)&&Nat.blt 0 (sizeT E.P et)&&Nat.blt 0 (bytesT E.P et) then some (es,ys,F2,bytesT E.P et,sizeT E.P et) else none
    | _,_=>none
   | _,_,_=>none
  | _,_,_=>none
 | _=>none
def apF:Option (List (List D)×List (List D)×Fr×Nat×Nat)->Fr
 | some (_,_,F,_,_)=>F
 | none=>[]
def apR:Option (List (List D)×List (List D)×Fr×Nat×Nat)->Option (List (List D)×List (List D)×Nat)
 | some (a,b,_,c,_)=>some (a,b,c)
 | none=>none
def apW:Option (List (List D)×List (List D)×Fr×Nat×Nat)->Nat
 | some (_,_,_,_,k)=>k
 | none=>0
theorem Bdx {F:Fr} {o:Oper} {e:Enc α} {l m:List α} {c:Nat} (hB:apR (apX E F o)=some (l.map e,m.map e,c)) (hk:∀ x,(e x).length=apW (apX E F o)) (hl:(l.length+m.length)*c<=140737488355328):opC E f V Acf F o=some (fin (apF (apX E F o)) o.dst (.own ((l++m).map e))):=by
 cases hx:apX E F o with
 | none=>rw [hx] at hB;cases hB
 | some q=>
  obtain ⟨es,ys,F2,c',k⟩:=q;rw [hx] at hB hk;simp only [apR,zJ,Prod.mk.injEq] at hB;obtain ⟨rfl,rfl,rfl⟩:=hB;simp only [apW] at hk;simp only [apF];unfold apX at hx
  split at hx
  ·rename_i cc ho
   split at hx
   ·rename_i x y t u hc ha ht
    split at hx
    ·rename_i et es F1 hr hs htk
     split at hx
     ·rename_i ys F3 z hn hz;cases hb:(Nat.beq z.cells.length (sizeT E.P et)&&Nat.blt 0 (sizeT E.P et)&&Nat.blt 0 (bytesT E.P et)) with
      | false=>rw [hb] at hx;cases hx
      | true=>
       rw [hb] at hx;simp only [cond_true,zJ,Prod.mk.injEq] at hx;obtain ⟨rfl,rfl,rfl,rfl,rfl⟩:=hx;simp only [Bool.and_eq_true] at hb;obtain ⟨cal,ags,tys⟩:=cc;simp only at hc ha ht;obtain ⟨ags⟩:=ags;obtain ⟨tys⟩:=tys;simp only at ha ht;subst ha;subst ht;subst hc;exact Amr ho hr hs hz (Nat.eq_of_beq_eq_true hb.1.1) htk hn rfl hb.1.2 rfl hb.2 hk hl
     ·cases hx
    ·cases hx
   ·cases hx
  ·cases hx
theorem mApp (n:Nat) (e:Enc α) (l x:List α) {c N1 N2:Nat} {R:Prop} (h:(N1+N2)*c<=140737488355328/\R)
  (k:R->Mh E f V Q (mSet (runM E f V n m) (fin (apF (apX E (mS (runM E f V n m)) (mO (runM E f V n m)))) (mO (runM E f V n m)).dst (.own ((l++x).map e)))))
  (K:(opM (runM E f V n m),apR (apX E (mS (runM E f V n m)) (mO (runM E f V n m))),l.length,x.length)=(true,some (l.map e,x.map e,c),N1,N2):=by kernel_rfl)
  (hk:∀ x,(e x).length=apW (apX E (mS (runM E f V n m)) (mO (runM E f V n m))):=by intro;kernel_rfl):Mh E f V Q m:=by
 simp only [Prod.mk.injEq] at K;obtain ⟨h1,h2,rfl,rfl⟩:=K;exact mOp n (Bdx h2 hk h.1) (k h.2) h1
def soX (E:Env) (F:Fr) (o:Oper):Option (D×Fr×Nat×Path×Nat×Nat×List (List D)×Nat):=match o.op with
 | .store t x y=>match takeOp E F y with
  | some (d,F1)=>match opd E F1 x with
   | some (place s ps n c)=>match getAt F1 s ps with
    | some (own es)=>bif (E.P.info? t).isSome&&Nat.beq d.cells.length (sizeT E.P t) then some (d,F1,s,ps,n,c,es,sizeT E.P t) else none
    | _=>none
   | _=>none
  | none=>none
 | _=>none
def soR:Option (D×Fr×Nat×Path×Nat×Nat×List (List D)×Nat)->Option (List (List D)×Nat)
 | some (_,_,_,_,n,_,es,_)=>some (es,n)
 | none=>none
def soC (cs:List D):Option (D×Fr×Nat×Path×Nat×Nat×List (List D)×Nat)->Option (List D)
 | some (d,_,_,_,_,c,_,k)=>bif Nat.ble (c+k) cs.length then some (cs.take c++d.cells++cs.drop (c+k)) else none
 | none=>none
def soF (cs:List D) (es:List (List D)):Option (D×Fr×Nat×Path×Nat×Nat×List (List D)×Nat)->Option Fr
 | some (_,F1,s,ps,n,c,_,k)=>(setAt F1 s ps (.own es)).map fun F2=>if ((cs.drop c).take k).any node1 then killF (deadCells s ps n c k) F2 else F2
 | none=>none
theorem Bgj {F F':Fr} {o:Oper} {e:Enc α} {l:List α} {n:Nat} {a b:α} (hB:soR (soX E F o)=some (l.map e,n)) (h:l[n]? = some a) (hb:soC (e a) (soX E F o)=some (e b)) (hF:soF (e a) ((l.set n b).map e) (soX E F o)=some F'):opC E f V Acf F o=some (fin F' o.dst (.tup [])):=by
 cases hx:soX E F o with
 | none=>rw [hx] at hB;cases hB
 | some q=>
  obtain ⟨d,F1,s,ps,n',c,es,k⟩:=q;rw [hx] at hB hb hF;simp only [soR,zJ,Prod.mk.injEq] at hB;obtain ⟨rfl,rfl⟩:=hB;simp only [soC] at hb;simp only [soF,Option.map_eq_some_iff] at hF;obtain ⟨F2,hF2,rfl⟩:=hF;unfold soX at hx
  split at hx
  ·rename_i t x y ho
   split at hx
   ·rename_i d' F1' hy
    split at hx
    ·rename_i s' ps' n2 c' hxx
     split at hx
     ·rename_i es hg;cases hq:((E.P.info? t).isSome&&Nat.beq d'.cells.length (sizeT E.P t)) with
      | false=>rw [hq] at hx;cases hx
      | true=>
       rw [hq] at hx;simp only [cond_true,zJ,Prod.mk.injEq] at hx;obtain ⟨rfl,rfl,rfl,rfl,rfl,rfl,rfl,rfl⟩:=hx;simp only [Bool.and_eq_true] at hq;cases hle:Nat.ble (c'+sizeT E.P t) (e a).length with
       | false=>rw [hle] at hb;cases hb
       | true=>
        rw [hle] at hb;simp only [cond_true,zJ] at hb;exact Bb7 ho hy hxx hg h hq.1 rfl (Nat.eq_of_beq_eq_true hq.2) hle hb hF2
     ·cases hx
    ·cases hx
   ·cases hx
  ·cases hx
theorem mSto (n:Nat) (e:Enc α) {l:List α} {i:Int} {a:α} (b:α) (h:lget l i=some a)
  (k:Mh E f V Q (mSet (runM E f V n m) (fin ((soF (e a) ((lset l i b).map e) (soX E (mS (runM E f V n m)) (mO (runM E f V n m)))).getD []) (mO (runM E f V n m)).dst (.tup []))))
  (K:(opM (runM E f V n m),soR (soX E (mS (runM E f V n m)) (mO (runM E f V n m))),soC (e a) (soX E (mS (runM E f V n m)) (mO (runM E f V n m))),(soF (e a) ((lset l i b).map e) (soX E (mS (runM E f V n m)) (mO (runM E f V n m)))).isSome)=(true,some (l.map e,i.toNat),some (e b),true):=by kernel_rfl):Mh E f V Q m:=by
 simp only [Prod.mk.injEq] at K;obtain ⟨h1,h2,h3,h4⟩:=K;obtain ⟨F',hF⟩:=Option.isSome_iff_exists.1 h4;rw [hF] at k;exact mOp n (Bgj h2 (Adm h).2 h3 hF) k h1
end
end Go.Own
namespace Go.Own
open D
section
variable {F F2:Fr} {α:Type} {e:Enc α} {l:List α} {a b:α} {s n c:Nat} {ps:Path} {cs:List D} {d d':D}
end
end Go.Own
namespace Go.Own
open D
section
variable {E:Env} {f:Nat} {V:List Nat} {Q:Ex->Fr->Prop} {m:Mc} {A B:Prop} {c:Prop} [Decidable c]
theorem Bbj (n:Nat) {op:BinOp} {t:Nat} {d1 d2:D} {b:Bool} (h:if c then A else B) (tp:b=true->¬ c) (fp:b=false->c) (hd:binD E op t d1 d2=some (lit (.bool b)))
  (k1:B->Mh E f V Q (mVal (runM E f V n m) (lit (.bool true)))) (k2:A->Mh E f V Q (mVal (runM E f V n m) (lit (.bool false))))
  (K:(valM (runM E f V n m),biB E (mF (runM E f V n m)) (mO (runM E f V n m)))=(true,some (op,t,d1,d2)):=by kernel_rfl):Mh E f V Q m:=by
 cases b with
 | true=>rw [if_neg (tp rfl)] at h;exact mBi n hd (k1 h) K
 | false=>rw [if_pos (fp rfl)] at h;exact mBi n hd (k2 h) K
end
end Go.Own
namespace Go.Own
open D
section
variable {E:Env} {f:Nat} {V:List Nat} {Q:Ex->Fr->Prop} {m:Mc} {α:Type}
def lstX (E:Env) (F:Fr) (o:Oper):Option (D×Nat×Nat×Nat×List (List D)×Nat):=match o.op with
 | .store t x y=>match o.dst with
  | some _=>none
  | none=>match Adk E F y with
   | none=>none
   | some d=>match opd E F x with
    | some (place s [] i c)=>match get F s with
     | own es=>bif (E.P.info? t).isSome&&Nat.beq d.cells.length (sizeT E.P t) then some (d,s,i,c,es,sizeT E.P t) else none
     | _=>none
    | _=>none
 | _=>none
def lstR:Option (D×Nat×Nat×Nat×List (List D)×Nat)->Option (List (List D)×Nat)
 | some (_,_,i,_,es,_)=>some (es,i)
 | none=>none
def lstS:Option (D×Nat×Nat×Nat×List (List D)×Nat)->Nat
 | some (_,s,_,_,_,_)=>s
 | none=>0
def lstC (cs:List D):Option (D×Nat×Nat×Nat×List (List D)×Nat)->Option (List D)
 | some (d,_,_,c,_,k)=>bif Nat.ble (c+k) cs.length&&!((cs.drop c).take k).any node1 then some (cs.take c++d.cells++cs.drop (c+k)) else none
 | none=>none
theorem Azk {F:Fr} {o:Oper} {es:List (List D)} {i:Nat} {cs cs':List D} (h:lstR (lstX E F o)=some (es,i)) (ha:es[i]? = some cs) (hc:lstC cs (lstX E F o)=some cs'):Acx E F o=some ((lstS (lstX E F o),own (es.set i cs')),[]):=by
 cases hx:lstX E F o with
 | none=>rw [hx] at h;cases h
 | some z=>
  obtain ⟨d,s,i',c,es',k⟩:=z;rw [hx] at h hc;simp only [lstR,zJ,Prod.mk.injEq] at h;obtain ⟨rfl,rfl⟩:=h;simp only [lstC] at hc;cases hb:(Nat.ble (c+k) cs.length&&!((cs.drop c).take k).any node1) with
  | false=>rw [hb] at hc;cases hc
  | true=>
   rw [hb] at hc;simp only [cond_true,zJ] at hc;subst hc;rw [Bool.and_eq_true] at hb;have hb1:=Nat.le_of_ble_eq_true hb.1;have hb2:((cs.drop c).take k).any node1=false:=by simpa using hb.2
   unfold lstX at hx;unfold Acx
   split at hx
   ·rename_i t x y hq
    split at hx
    ·cases hx
    ·rename_i hdst
     split at hx
     ·cases hx
     ·rename_i d' hy
      split at hx
      ·rename_i s' i2 c' hxx
       split at hx
       ·rename_i es2 hg;cases hi:((E.P.info? t).isSome&&Nat.beq d'.cells.length (sizeT E.P t)) with
        | false=>rw [hi] at hx;cases hx
        | true=>
         rw [hi] at hx;simp only [cond_true,zJ,Prod.mk.injEq] at hx;obtain ⟨rfl,rfl,rfl,rfl,rfl,rfl⟩:=hx;rw [Bool.and_eq_true] at hi;have h1:=hi.1;have h2:=Nat.eq_of_beq_eq_true hi.2;simp only [hq,hdst,hy,hxx,hg,ha,lstS];rw [if_pos ⟨h1,h2,hb1⟩];simp only [Aie,hb2,Bool.false_eq_true,if_false]
       ·cases hx
      ·cases hx
   ·cases hx
def mEf:Mc->List (Nat×D)->List (Nat×Path)->Mc
 | .op id ops draw ks j s,p,K=>.op id ops draw ks (j+1) ((j,p.map (·.1),some K)::s.1,putsF p s.2)
 | _,_,_=>.bad
def effM (E:Env) (f:Nat):Mc->List (Nat×D)->List (Nat×Path)->Bool
 | .op _ ops draw _ j s,p,K=>match ops[j]? with
  | some o=>draw&&!Abk ops j&&Akh (wantedD ops (frd draw ops j s) o)&&(Aak E f Acf ops (frd draw ops j s) o).isNone&&Atn E f ops s.1 j s.2 o p K
  | none=>false
 | _,_,_=>false
theorem Bbk {p:List (Nat×D)} {K:List (Nat×Path)} (hok:effM E f m p K=true) (h:effC E f V Acf (mF m) (mO m)=some (p,K)) (k:MhD E f V Q (mEf m p K)):MhD E f V Q m:=by
 cases m with
 | pt c F=>cases hok
 | bad=>cases hok
 | op id ops draw ks j s=>
  refine MhD.op_step ⟨0,fun n _=>Ape Ajm (c:=Acf) ?_⟩ k;simp only [effM] at hok
  split at hok
  ·rename_i o ho;simp only [Bool.and_eq_true] at hok;obtain ⟨⟨⟨⟨hd,han⟩,hw⟩,hpn⟩,hef⟩:=hok;have hw:=Ajh hw;have han:Abk ops j=false:=by simpa using han
   cases draw with
   | false=>cases hd
   | true=>
    simp only [mF,mO,ho,frd,han,Bool.not_false,Bool.and_self,cond_true] at h hw hpn;have hl:effS E f V Acf ops s.1 j s.2 o=some ((j,p.map (·.1),some K)::s.1,putsF p s.2):=by
     unfold effS;simp only [Axe h,hw,h];rw [if_pos hef]
    unfold Afw;simp only [ho,cond_true,han,cond_false,Option.isNone_iff_eq_none.1 hpn,hl]
  ·cases hok
theorem Bh2 (n:Nat) (e:Enc α) {l:List α} {i:Int} {a:α} (b:α) (h:lget l i=some a)
  (k:Mh E f V Q (mEf (runM E f V n m) [(lstS (lstX E (mF (runM E f V n m)) (mO (runM E f V n m))),.own ((lset l i b).map e))] []))
  (K:(effM E f (runM E f V n m) [(lstS (lstX E (mF (runM E f V n m)) (mO (runM E f V n m))),.own ((lset l i b).map e))] [],lstR (lstX E (mF (runM E f V n m)) (mO (runM E f V n m))),lstC (e a) (lstX E (mF (runM E f V n m)) (mO (runM E f V n m))))=(true,some (l.map e,i.toNat),some (e b)):=by kernel_rfl):Mh E f V Q m:=by
 simp only [Prod.mk.injEq] at K;obtain ⟨h1,h2,h3⟩:=K;have h4:Acx E (mF (runM E f V n m)) (mO (runM E f V n m))=some ((lstS (lstX E (mF (runM E f V n m)) (mO (runM E f V n m))),.own ((lset l i b).map e)),[]):=by
  have:=Azk (i:=i.toNat) h2 (cs:=e a) (by rw [List.getElem?_map,(Adm h).2];rfl) h3;have h5:(l.map e).set i.toNat (e b)=(lset l i b).map e:=by unfold lset;rw [List.map_set]
  rw [h5] at this;exact this
 exact runK n m ⟨Bbk h1 (by unfold effC;simp only [h4]) k.out⟩
end
end Go.Own
namespace Go.Own
open D
section
variable {E:Env} {f:Nat} {V:List Nat} {Q:Ex->Fr->Prop} {m:Mc} {α ρ:Type}
end
end Go.Own
namespace Go.Own
open D
theorem Awa {E:Env} {f k i s1 s2:Nat} {V:List Nat} {F F0 F1 F':Fr} {α β:Type} {e1 e1':Enc α} {e2 e2':Enc β} {l1:List (List α)} {l2:List (List β)} (h0:trim0 E f V k i F=F0) (hc:E.chill f k i=[(s1,0),(s2,0)])
  (hg1:get F0 s1=.own (l1.map (eOw e1))) (hf1:Fzn e1 id e1') (hn1:Af3 F0 s1=true) (h1:put0 F0 s1 (.own (l1.map (eSl e1')))=F1)
  (hg2:get F1 s2=.own (l2.map (eOw e2))) (hf2:Fzn e2 id e2') (hn2:Af3 F1 s2=true) (h2:put0 F1 s2 (.own (l2.map (eSl e2')))=F'):trim E f V k i F=F':=by
 unfold trim;rw [hc,h0];simp only [chillAll];rw [As5 hg1 hf1 hn1,h1,As5 hg2 hf2 hn2,h2]
end Go.Own
namespace Go.Own
open D
section
variable {E:Env} {f:Nat} {V:List Nat} {Q:Ex->Fr->Prop} {m:Mc} {α:Type}
def lstK (cs:List D):Option (D×Nat×Nat×Nat×List (List D)×Nat)->Option (List D)
 | some (d,_,_,c,_,k)=>bif Nat.ble (c+k) cs.length&&((cs.drop c).take k).any node1&&Nat.beq c 0&&Nat.beq k 1 then some (cs.take c++d.cells++cs.drop (c+k)) else none
 | none=>none
theorem Axs {F:Fr} {o:Oper} {es:List (List D)} {i:Nat} {cs cs':List D} (h:lstR (lstX E F o)=some (es,i)) (ha:es[i]? = some cs) (hc:lstK cs (lstX E F o)=some cs'):Acx E F o=some ((lstS (lstX E F o),own (es.set i cs')),[(lstS (lstX E F o),[(i,0)])]):=by
 cases hx:lstX E F o with
 | none=>rw [hx] at h;cases h
 | some z=>
  obtain ⟨d,s,i',c,es',k⟩:=z;rw [hx] at h hc;simp only [lstR,zJ,Prod.mk.injEq] at h;obtain ⟨rfl,rfl⟩:=h;simp only [lstK] at hc;cases hb:(Nat.ble (c+k) cs.length&&((cs.drop c).take k).any node1&&Nat.beq c 0&&Nat.beq k 1) with
  | false=>rw [hb] at hc;cases hc
  | true=>
   rw [hb] at hc;simp only [cond_true,zJ] at hc;subst hc;rw [Bool.and_eq_true,Bool.and_eq_true,Bool.and_eq_true] at hb;have hb1:=Nat.le_of_ble_eq_true hb.1.1.1;have hb2:=hb.1.1.2;have hb3:=Nat.eq_of_beq_eq_true hb.1.2;have hb4:=Nat.eq_of_beq_eq_true hb.2;unfold lstX at hx;unfold Acx
   split at hx
   ·rename_i t x y hq
    split at hx
    ·cases hx
    ·rename_i hdst
     split at hx
     ·cases hx
     ·rename_i d' hy
      split at hx
      ·rename_i s' i2 c' hxx
       split at hx
       ·rename_i es2 hg;cases hi:((E.P.info? t).isSome&&Nat.beq d'.cells.length (sizeT E.P t)) with
        | false=>rw [hi] at hx;cases hx
        | true=>
         rw [hi] at hx;simp only [cond_true,zJ,Prod.mk.injEq] at hx;obtain ⟨rfl,rfl,rfl,rfl,rfl,rfl⟩:=hx;rw [Bool.and_eq_true] at hi;have h1:=hi.1;have h2:=Nat.eq_of_beq_eq_true hi.2;simp only [hq,hdst,hy,hxx,hg,ha,lstS];rw [if_pos ⟨h1,h2,hb1⟩];rw [hb3] at hb2 ⊢;rw [hb4] at h2;rw [hb4] at hb2;simp only [Aie,hb4];rw [if_pos hb2];rfl
       ·cases hx
      ·cases hx
   ·cases hx
theorem Adx (n:Nat) (e:Enc α) {l:List α} {i:Int} {a:α} (b:α) (h:lget l i=some a)
  (k:Mh E f V Q (mEf (runM E f V n m) [(lstS (lstX E (mF (runM E f V n m)) (mO (runM E f V n m))),.own ((lset l i b).map e))] [(lstS (lstX E (mF (runM E f V n m)) (mO (runM E f V n m))),[(i.toNat,0)])]))
  (K:(effM E f (runM E f V n m) [(lstS (lstX E (mF (runM E f V n m)) (mO (runM E f V n m))),.own ((lset l i b).map e))] [(lstS (lstX E (mF (runM E f V n m)) (mO (runM E f V n m))),[(i.toNat,0)])],lstR (lstX E (mF (runM E f V n m)) (mO (runM E f V n m))),lstK (e a) (lstX E (mF (runM E f V n m)) (mO (runM E f V n m))))=(true,some (l.map e,i.toNat),some (e b)):=by kernel_rfl):Mh E f V Q m:=by
 simp only [Prod.mk.injEq] at K;obtain ⟨h1,h2,h3⟩:=K;have h4:Acx E (mF (runM E f V n m)) (mO (runM E f V n m))=some ((lstS (lstX E (mF (runM E f V n m)) (mO (runM E f V n m))),.own ((lset l i b).map e)),[(lstS (lstX E (mF (runM E f V n m)) (mO (runM E f V n m))),[(i.toNat,0)])]):=by
  have:=Axs (i:=i.toNat) h2 (cs:=e a) (by rw [List.getElem?_map,(Adm h).2];rfl) h3;have h5:(l.map e).set i.toNat (e b)=(lset l i b).map e:=by unfold lset;rw [List.map_set]
  rw [h5] at this;exact this
 exact runK n m ⟨Bbk h1 (by unfold effC;simp only [h4]) k.out⟩
end
end Go.Own
