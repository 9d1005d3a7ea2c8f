/- An interpreter of function bodies, sound. No conditions. -/
import Derived.Test.YtmiedlcblpiemaaDoorOwn22
set_option linter.all false
namespace Go.Own
open D
section
variable {E:Env} {f:Nat} {V:List Nat} {Q:Ex->Fr->Prop} {m:Mc} {α:Type} {A B:Prop} {c:Prop} [Decidable c]
theorem mIn {body:Code} {p:List Nat} {F:Fr} (h:Mh E f V Q (.pt (go body p []) F)):Pt E f V body p F Q:=h.out
theorem mFin (n:Nat) {body:Code} {p:List Nat} {F:Fr} (h:Pt E f V body p F Q) (K:runM E f V n m=.pt (go body p []) F:=by kernel_rfl):Mh E f V Q m:=by
 refine runK n m ?_;rw [K];exact ⟨h⟩
def mLv (E:Env) (f:Nat) (V:List Nat):Mc->Fr
 | .pt (.exit id,_) F=>trim E f V 3 id F
 | .pt _ F=>F
 | .op id _ _ _ _ s=>trim E f V 0 id (norm V s.2)
 | .bad=>[]
def mEnd:Mc->Bool
 | .pt (.ret,_) _=>true
 | .pt (.skip,ks) _=>(Af6 ks).isNone
 | .pt (.exit id,ks) _=>match Aka id ks with
  | some ks'=>(Af6 ks').isNone
  | none=>false
 | .op _ ops _ ks j _=>Nat.beq ops.size j&&(Af6 ks).isNone
 | _=>false
theorem mRet (n:Nat) {fd:Func} {N:Nat} {ρ:Type} {res:ρ->D×List D} {φ:ρ->Prop} {r:ρ} (h:φ r) (hl:Adp E f fd N (mLv E f V (runM E f V n m))=some (res r):=by kernel_rfl) (K:mEnd (runM E f V n m)=true:=by kernel_rfl):Mh E f V (Lv E f fd N res φ) m:=by
 refine runK n m ?_;generalize runM E f V n m=m' at hl K;cases m' with
 | bad=>cases K
 | pt c F=>
  obtain ⟨c,ks⟩:=c;cases c with
  | ret=>exact ⟨To.ret (Aon ⟨r,hl,h⟩)⟩
  | skip=>
   simp only [mEnd,Option.isNone_iff_eq_none] at K;exact ⟨To.skip (Aom K ⟨r,hl,h⟩)⟩
  | exit id=>
   simp only [mEnd] at K
   split at K
   ·rename_i ks' hk;rw [Option.isNone_iff_eq_none] at K;exact ⟨To.exit (Ajd hk (Aom K ⟨r,hl,h⟩))⟩
   ·cases K
  | _=>cases K
 | op id ops draw ks j s=>
  simp only [mEnd,Bool.and_eq_true,Option.isNone_iff_eq_none] at K;have hj:ops.size=j:=Nat.eq_of_beq_eq_true K.1;refine ⟨s.2,⟨0,fun n _=>?_⟩,Aom K.2 ⟨r,hl,h⟩⟩;rw [List.drop_eq_nil_iff.2 (by simp [hj])];simp only [Akk,Acb,opsC,ite_self]
theorem mEnt {fd:Func} {body:Code} {ds:List D} {ρ:Type} {res:ρ->D×List D} {φ:ρ->Prop} (h:Mh E f V (Lv E f fd ds.length res φ) (.pt (dn body []) (norm V (Adm E f 0 ds))))
  (hp:E.prim f=none:=by kernel_rfl) (hf:E.P.funcs[f]? = some fd:=by kernel_rfl) (hb:fd.body=some body:=by kernel_rfl) (hl:(Nat.ble ds.length fd.ntmps&&Nat.blt fd.ntmps 1000000)=true:=by kernel_rfl) (hV:E.vars f++Abu E f 0 ds.length=V:=by kernel_rfl):∃ r,φ r/\Ret E f ds (res r).1 (res r).2:=by
 subst hV;rw [Bool.and_eq_true] at hl;obtain ⟨e,F1,h1,h2⟩:=Aj4 body [] h.out;simp only [kTo] at h2;have hl':ds.length<=fd.ntmps/\fd.ntmps<1000000:=⟨Nat.le_of_ble_eq_true hl.1,Nat.le_of_ble_eq_true hl.2⟩
 cases e with
 | exit i=>exact h2.elim
 | normal=>obtain ⟨r,h3,h4⟩:=h2;exact ⟨r,h4,Ret.of_to hp hf hb hl' rfl ⟨_,F1,h1,h3⟩⟩
 | ret=>obtain ⟨r,h3,h4⟩:=h2;exact ⟨r,h4,Ret.of_to hp hf hb hl' rfl ⟨_,F1,h1,h3⟩⟩
theorem mVl (n:Nat) {d:D} (hv:valC E f Acd (mF (runM E f V n m)) (mO (runM E f V n m))=some d) (k:Mh E f V Q (mVal (runM E f V n m) d)) (K:valM (runM E f V n m)=true:=by kernel_rfl):Mh E f V Q m:=
 runK n m ⟨Bin K hv k.out⟩
theorem mOp (n:Nat) {F':Fr} (hv:opC E f V Acd (mS (runM E f V n m)) (mO (runM E f V n m))=some F') (k:Mh E f V Q (mSet (runM E f V n m) F')) (K:opM (runM E f V n m)=true:=by kernel_rfl):Mh E f V Q m:=
 runK n m ⟨m_op K hv k.out⟩
theorem mAsk (n:Nat) {b:Bool} (h:if c then A else B) (tp:b=true->c) (fp:b=false->¬ c)
  (k1:A->Mh E f V Q (mVal (runM E f V n m) (lit (.bool true)))) (k2:B->Mh E f V Q (mVal (runM E f V n m) (lit (.bool false))))
  (hv:valC E f Acd (mF (runM E f V n m)) (mO (runM E f V n m))=some (lit (.bool b)):=by kernel_rfl) (K:valM (runM E f V n m)=true:=by kernel_rfl):Mh E f V Q m:=by
 cases b with
 | true=>rw [if_pos (tp rfl)] at h;exact mVl n hv (k1 h) K
 | false=>rw [if_neg (fp rfl)] at h;exact mVl n hv (k2 h) K
theorem Ad0 (n:Nat) {b:Bool} (h:if c then A else B) (tp:b=true->¬ c) (fp:b=false->c)
  (k1:B->Mh E f V Q (mVal (runM E f V n m) (lit (.bool true)))) (k2:A->Mh E f V Q (mVal (runM E f V n m) (lit (.bool false))))
  (hv:valC E f Acd (mF (runM E f V n m)) (mO (runM E f V n m))=some (lit (.bool b)):=by kernel_rfl) (K:valM (runM E f V n m)=true:=by kernel_rfl):Mh E f V Q m:=by
 cases b with
 | true=>rw [if_neg (tp rfl)] at h;exact mVl n hv (k1 h) K
 | false=>rw [if_pos (fp rfl)] at h;exact mVl n hv (k2 h) K
def Auy (E:Env):Mc->Option D
 | .pt (.cond y _ _,_) F=>opd E F y
 | _=>none
def mBr (E:Env) (f:Nat) (V:List Nat) (t:Bool):Mc->Mc
 | .pt (.cond y a b,ks) F=>bif t then .pt (dn a ks) (trim E f V 1 (Ai1 y) F) else .pt (dn b ks) (trim E f V 2 (Ai1 y) F)
 | _=>.bad
theorem m_br {b:Bool} (hv:Auy E m=some (lit (.bool b))) (k:Mh E f V Q (mBr E f V b m)):Mh E f V Q m:=by
 refine ⟨Awg m ?_⟩;unfold Auy at hv
 split at hv
 ·simp only [Akg,hv];exact k.out
 ·cases hv
theorem mCon (n:Nat) {b:Bool} (h:if c then A else B) (tp:b=true->c) (fp:b=false->¬ c)
  (k1:A->Mh E f V Q (mBr E f V true (runM E f V n m))) (k2:B->Mh E f V Q (mBr E f V false (runM E f V n m)))
  (hv:Auy E (runM E f V n m)=some (lit (.bool b)):=by kernel_rfl):Mh E f V Q m:=by
 refine runK n m ?_;cases b with
 | true=>rw [if_pos (tp rfl)] at h;exact m_br hv (k1 h)
 | false=>rw [if_neg (fp rfl)] at h;exact m_br hv (k2 h)
theorem Be2 (n:Nat) {b:Bool} (h:if c then A else B) (tp:b=true->¬ c) (fp:b=false->c)
  (k1:B->Mh E f V Q (mBr E f V true (runM E f V n m))) (k2:A->Mh E f V Q (mBr E f V false (runM E f V n m)))
  (hv:Auy E (runM E f V n m)=some (lit (.bool b)):=by kernel_rfl):Mh E f V Q m:=by
 refine runK n m ?_;cases b with
 | true=>rw [if_neg (tp rfl)] at h;exact m_br hv (k1 h)
 | false=>rw [if_pos (fp rfl)] at h;exact m_br hv (k2 h)
def asI:Option D->Option Int
 | some (lit (.int _ n))=>some n
 | _=>none
theorem Alw {d:Option D} {i:Int} (h:asI d=some i):∃ q,d=some (lit (.int q i)):=by
 unfold asI at h
 split at h
 ·rename_i q n;simp only [zJ] at h;subst h;exact ⟨q,rfl⟩
 ·cases h
def ixB (E:Env) (F:Fr) (o:Oper):Option (List (List D)×Int×Nat):=match o.op with
 | .indexAddr t x ix=>match opd E F x,asI (opd E F ix),sliceT E.P t with
  | some (sl es),some i,some et=>some (es,i,sizeT E.P et)
  | some (alias s ps),some i,some et=>match getAt F s ps with
   | some (sl es)=>some (es,i,sizeT E.P et)
   | _=>none
  | _,_,_=>none
 | _=>none
theorem Beq {F:Fr} {o:Oper} {e:Enc α} {l:List α} {i:Int} {k:Nat} {a:α} (hB:ixB E F o=some (l.map e,i,k)) (h:lget l i=some a) (hk:(e a).length=k):valC E f Acd F o=some (.ref (e a)):=by
 unfold ixB at hB
 split at hB
 ·rename_i t x ix ho
  split at hB
  ·rename_i es i' et hx hi ht;simp only [zJ,Prod.mk.injEq] at hB;obtain ⟨rfl,rfl,rfl⟩:=hB;obtain ⟨q,hq⟩:=Alw hi;exact Aml ho hx hq ht rfl h hk
  ·rename_i s ps i' et hx hi ht
   split at hB
   ·rename_i es hg;simp only [zJ,Prod.mk.injEq] at hB;obtain ⟨rfl,rfl,rfl⟩:=hB;obtain ⟨q,hq⟩:=Alw hi;exact Awz ho hx hg hq ht rfl h hk
   ·cases hB
  ·cases hB
 ·cases hB
theorem mIxf (n:Nat) (e:Enc α) {l:List α} {i:Int} {a:α} (h:lget l i=some a)
  (k:Mh E f V Q (mVal (runM E f V n m) (.ref (e a))))
  (K:(valM (runM E f V n m),ixB E (mF (runM E f V n m)) (mO (runM E f V n m)))=(true,some (l.map e,i,(e a).length)):=by kernel_rfl):Mh E f V Q m:=by
 simp only [Prod.mk.injEq] at K;exact mVl n (Beq K.2 h rfl) k K.1
theorem mIx (n:Nat) (e:Enc α) {l:List α} {i:Int} {R:α->Prop} (h:∃ a,lget l i=some a/\R a)
  (k:∀ a,lget l i=some a->R a->Mh E f V Q (mVal (runM E f V n m) (.ref (e a))))
  (K:∀ a,(valM (runM E f V n m),ixB E (mF (runM E f V n m)) (mO (runM E f V n m)))=(true,some (l.map e,i,(e a).length)):=by intro;kernel_rfl):Mh E f V Q m:=by
 obtain ⟨a,h1,h2⟩:=h;exact mIxf n e h1 (k a h1 h2) (K a)
def ixP (E:Env) (F:Fr) (o:Oper):Option (Nat×Path×List (List D)×Int×Nat):=match o.op with
 | .indexAddr t x ix=>match opd E F x,asI (opd E F ix),sliceT E.P t with
  | some (alias s ps),some i,some et=>match getAt F s ps with
   | some (own es)=>some (s,ps,es,i,sizeT E.P et)
   | _=>none
  | _,_,_=>none
 | _=>none
def ixR (x:Option (Nat×Path×List (List D)×Int×Nat)):Option (List (List D)×Int×Nat):=x.map fun y=>y.2.2
def ixD (x:Option (Nat×Path×List (List D)×Int×Nat)) (i:Int):D:=match x with
 | some (s,ps,_,_,_)=>.place s ps i.toNat 0
 | none=>.undef
theorem Ber {F:Fr} {o:Oper} {e:Enc α} {l:List α} {i:Int} {k:Nat} {a:α} (hB:ixR (ixP E F o)=some (l.map e,i,k)) (h:lget l i=some a) (hk:(e a).length=k):valC E f Acd F o=some (ixD (ixP E F o) i):=by
 obtain ⟨⟨s,ps,es,i',k'⟩,h1,h2⟩:=Option.map_eq_some_iff.1 hB;simp only [Prod.mk.injEq] at h2;obtain ⟨rfl,rfl,rfl⟩:=h2;rw [h1];unfold ixP at h1
 split at h1
 ·rename_i t x ix ho
  split at h1
  ·rename_i s' ps' i2 et hx hi ht
   split at h1
   ·rename_i es hg;simp only [zJ,Prod.mk.injEq] at h1;obtain ⟨rfl,rfl,rfl,rfl,rfl⟩:=h1;obtain ⟨q,hq⟩:=Alw hi;exact As4 ho hx hg hq ht rfl h hk
   ·cases h1
  ·cases h1
 ·cases h1
theorem mIyf (n:Nat) (e:Enc α) {l:List α} {i:Int} {a:α} (h:lget l i=some a)
  (k:Mh E f V Q (mVal (runM E f V n m) (ixD (ixP E (mF (runM E f V n m)) (mO (runM E f V n m))) i)))
  (K:(valM (runM E f V n m),ixR (ixP E (mF (runM E f V n m)) (mO (runM E f V n m))))=(true,some (l.map e,i,(e a).length)):=by kernel_rfl):Mh E f V Q m:=by
 simp only [Prod.mk.injEq] at K;exact mVl n (Ber K.2 h rfl) k K.1
theorem mIy (n:Nat) (e:Enc α) {l:List α} {i:Int} {R:α->Prop} (h:∃ a,lget l i=some a/\R a)
  (k:∀ a,lget l i=some a->R a->Mh E f V Q (mVal (runM E f V n m) (ixD (ixP E (mF (runM E f V n m)) (mO (runM E f V n m))) i)))
  (K:∀ a,(valM (runM E f V n m),ixR (ixP E (mF (runM E f V n m)) (mO (runM E f V n m))))=(true,some (l.map e,i,(e a).length)):=by intro;kernel_rfl):Mh E f V Q m:=by
 obtain ⟨a,h1,h2⟩:=h;exact mIyf n e h1 (k a h1 h2) (K a)
def ldB (E:Env) (F:Fr) (o:Oper):Option (List (List D)×Nat):=match o.op with
 | .load t x=>match opd E F x with
  | some (place s ps n _)=>match getAt F s ps with
   | some (own es)=>bif (E.P.underlying t).isNone then none else some (es,n)
   | _=>none
  | _=>none
 | _=>none
def ldD (E:Env) (F:Fr) (o:Oper) (cs:List D):Option D:=match o.op with
 | .load t x=>match opd E F x with
  | some (place s ps n c)=>if c+sizeT E.P t<=cs.length then ofCells (isAggT E.P t) (viewCells s ps n c ((cs.drop c).take (sizeT E.P t))) else none
  | _=>none
 | _=>none
theorem Bf8 {F:Fr} {o:Oper} {e:Enc α} {l:List α} {n:Nat} {a:α} {d:D} (hB:ldB E F o=some (l.map e,n)) (h:l[n]? = some a) (hd:ldD E F o (e a)=some d):valC E f Acd F o=some d:=by
 unfold ldB at hB;unfold ldD at hd
 split at hB
 ·rename_i t x ho;simp only [ho] at hd
  split at hB
  ·rename_i s ps n' c hx;simp only [hx] at hd
   split at hB
   ·rename_i es hg;cases hu:(E.P.underlying t).isNone with
    | true=>rw [hu] at hB;cases hB
    | false=>
     rw [hu] at hB;simp only [cond_false,zJ,Prod.mk.injEq] at hB;obtain ⟨rfl,rfl⟩:=hB;exact Aky ho hx hg hu h hd
   ·cases hB
  ·cases hB
 ·cases hB
theorem mLd (n:Nat) (e:Enc α) {l:List α} {i:Int} {a:α} (h:lget l i=some a)
  (k:Mh E f V Q (mVal (runM E f V n m) ((ldD E (mF (runM E f V n m)) (mO (runM E f V n m)) (e a)).getD .undef)))
  (K:(valM (runM E f V n m),ldB E (mF (runM E f V n m)) (mO (runM E f V n m)),(ldD E (mF (runM E f V n m)) (mO (runM E f V n m)) (e a)).isSome)=(true,some (l.map e,i.toNat),true):=by kernel_rfl):Mh E f V Q m:=by
 simp only [Prod.mk.injEq] at K;obtain ⟨d,hd⟩:=Option.isSome_iff_exists.1 K.2.2;rw [hd] at k;exact mVl n (Bf8 K.2.1 (Adq h).2 hd) k K.1
def lenB (E:Env) (F:Fr) (o:Oper):Option (List (List D)):=match o.op with
 | .call c=>match c.callee,c.args.toList,c.argTypes.toList with
  | .builtin .len,[x],[t]=>match opd E F x,sliceT E.P t with
   | some d,some _=>elemsOf F d
   | _,_=>none
  | _,_,_=>none
 | _=>none
theorem Bdb {F:Fr} {o:Oper} {e:Enc α} {l:List α} (hB:lenB E F o=some (l.map e)):valC E f Acd F o=some (.lit (.int .i64 l.length)):=by
 unfold lenB at hB
 split at hB
 ·rename_i c ho
  split at hB
  ·rename_i x t hc ha ht
   split at hB
   ·rename_i d et hx hs;obtain ⟨cal,ags,tys⟩:=c;simp only at hc ha ht;obtain ⟨ags⟩:=ags;obtain ⟨tys⟩:=tys;simp only at ha ht;subst ha;subst ht;subst hc;exact Ayk ho hx hB hs
   ·cases hB
  ·cases hB
 ·cases hB
theorem mLen (n:Nat) (e:Enc α) (l:List α) (k:Mh E f V Q (mVal (runM E f V n m) (.lit (.int .i64 l.length))))
  (K:(valM (runM E f V n m),lenB E (mF (runM E f V n m)) (mO (runM E f V n m)))=(true,some (l.map e)):=by kernel_rfl):Mh E f V Q m:=by
 simp only [Prod.mk.injEq] at K;exact mVl n (Bdb K.2) k K.1
def stB (E:Env) (F:Fr) (o:Oper):Option (ByteArray×Int):=match o.op with
 | .index t x ix=>match opd E F x,asI (opd E F ix),E.P.underlying t with
  | some (lit (.string s)),some i,some .string=>some (s,i)
  | _,_,_=>none
 | _=>none
theorem mSt (n:Nat) {s:ByteArray} {i:Int} {R:UInt8->Prop} (h:∃ b,(0<=i/\s[i.toNat]? = some b)/\R b)
  (k:∀ b,R b->Mh E f V Q (mVal (runM E f V n m) (.lit (.int .u8 b.toNat))))
  (K:(valM (runM E f V n m),stB E (mF (runM E f V n m)) (mO (runM E f V n m)))=(true,some (s,i)):=by kernel_rfl):Mh E f V Q m:=by
 obtain ⟨b,⟨h0,h1⟩,h2⟩:=h;simp only [Prod.mk.injEq] at K;refine mVl n ?_ (k b h2) K.1;have hB:=K.2;generalize mF (runM E f V n m)=F at hB;generalize mO (runM E f V n m)=o at hB;unfold stB at hB
 split at hB
 ·rename_i t x ix ho
  split at hB
  ·rename_i s' i' hx hi ht;simp only [zJ,Prod.mk.injEq] at hB;obtain ⟨rfl,rfl⟩:=hB;obtain ⟨q,hq⟩:=Alw hi;exact Bc3 ho hx hq ht h0 h1
  ·cases hB
 ·cases hB
def biB (E:Env) (F:Fr) (o:Oper):Option (BinOp×Nat×D×D):=match o.op with
 | .binOp op t x y _=>match opd E F x,opd E F y with
  | some a,some b=>some (op,t,a,b)
  | _,_=>none
 | _=>none
theorem mBi (n:Nat) {op:BinOp} {t:Nat} {d1 d2 d:D} (hd:binD E op t d1 d2=some d) (k:Mh E f V Q (mVal (runM E f V n m) d))
  (K:(valM (runM E f V n m),biB E (mF (runM E f V n m)) (mO (runM E f V n m)))=(true,some (op,t,d1,d2)):=by kernel_rfl):Mh E f V Q m:=by
 simp only [Prod.mk.injEq] at K;refine mVl n ?_ k K.1;have hB:=K.2;generalize mF (runM E f V n m)=F at hB;generalize mO (runM E f V n m)=o at hB;unfold biB at hB
 split at hB
 ·rename_i op' t' x y ty ho
  split at hB
  ·rename_i a b ha hb;simp only [zJ,Prod.mk.injEq] at hB;obtain ⟨rfl,rfl,rfl,rfl⟩:=hB;exact Ayj ho ha hb hd
  ·cases hB
 ·cases hB
end
end Go.Own
