/- What the functions answer. No conditions. -/
import Derived.Test.YtmiedlcblpiemaaGreatDoorOwn24
import Derived.Test.YtmiedlcblpiemaaGreatDoorOwn32
set_option linter.all false
open Nat renaming testBit_and->zA,pow_le_pow_right->zC,testBit_lt_two_pow->zD,lt_of_lt_of_le->zE,lt_of_le_of_lt->zF,exists_testBit_of_ne_zero->zG,eq_of_testBit_eq->zH,zero_testBit->zI,testBit_or->zM,or_lt_two_pow->zS,div_eq_of_lt->zU,and_le_left->zV,min_eq_left->zW
open Bool renaming and_eq_true->zB,true_and->zP,not_eq_true'->zQ
open List renaming mem_cons_of_mem->zK,mem_filter->zL,mem_cons->zN,mem_map->zO,pairwise_map->zR
open Int renaming toNat_natCast->zT
namespace Go.Own
def top:IntKind->Nat
 | .u8=>8
 | .u32=>32
 | .u64=>64
 | .i64=>63
 |_=>0
def Aon(k:IntKind):top k<=k.bits:=by cases k<;>decide
def Ae0{k:IntKind}{n:Nat}(h:n<2^top k):k.wrap (n:Int)=n:=by
 cases k<;>simp only[top]at h<;>simp only[IntKind.wrap,IntKind.bits,IntKind.signed]<;>simp<;>omega
def Afa{k:IntKind}{n:Nat}(h:n<2^top k):(BitVec.ofInt k.bits (n:Int)).toNat=n:=by
 have h2:n<2^k.bits:=zE h (zC (by decide) (Aon k));have e:BitVec.ofInt k.bits (n:Int)=BitVec.ofNat k.bits n:=by rw[BitVec.ofInt_natCast]
 rw[e,BitVec.toNat_ofNat,Nat.mod_eq_of_lt h2]
def Adv{k:IntKind}{a b:Nat}(ha:a<2^top k)(hb:b<2^top k):bAnd k (a:Int) (b:Int)=((a &&& b:Nat):Int):=by
 unfold bAnd;rw[BitVec.toNat_and,Afa ha,Afa hb];exact Ae0 (zF zV ha)
def Ae7{k:IntKind}{a b:Nat}(ha:a<2^top k)(hb:b<2^top k):bOr k (a:Int) (b:Int)=((a ||| b:Nat):Int):=by
 unfold bOr;rw[BitVec.toNat_or,Afa ha,Afa hb];exact Ae0 (zS ha hb)
def Ayx{k:IntKind}{a b:Nat}(ha:a<2^top k)(hb:b<2^top k):bXor k (a:Int) (b:Int)=((a ^^^ b:Nat):Int):=by
 unfold bXor;rw[BitVec.toNat_xor,Afa ha,Afa hb];exact Ae0 (Nat.xor_lt_two_pow ha hb)
def Aa7(a b:Nat):Nat:=a &&& (a ^^^ b)
def Aa9{a b i:Nat}:(Aa7 a b).testBit i=(a.testBit i&&!b.testBit i):=by
 unfold Aa7;rw[zA,Nat.testBit_xor];cases a.testBit i<;>cases b.testBit i<;>rfl
def Adf{a b:Nat}:Aa7 a b<=a:=zV
def Abp{k:IntKind}{a b:Nat}(ha:a<2^top k)(hb:b<2^top k):Aae k (a:Int) (b:Int)=((Aa7 a b:Nat):Int):=by
 unfold Aae;have:(BitVec.ofInt k.bits (a:Int) &&& ~~~BitVec.ofInt k.bits (b:Int)).toNat=Aa7 a b:=by
  apply zH;intro i;rw[Aa9,BitVec.toNat_and,zA,Afa ha,BitVec.testBit_toNat,BitVec.getLsbD_not,<-BitVec.testBit_toNat,Afa hb];by_cases hi:i<k.bits
  .simp [hi]
  .have:a.testBit i=false:=zD (zE ha (zC (by decide) (Nat.le_trans (Aon k) (by omega))));simp[hi,this]
 rw[this];exact Ae0 (zF Adf ha)
def Adz{k:IntKind}{a i:Nat}(ha:a<2^top k):shrw k (a:Int) (i:Int)=((a / 2^i:Nat):Int):=by
 unfold shrw;rw[zT];have e:((2:Int)^min i k.bits)=((2^min i k.bits:Nat):Int):=by simp
 rw[e,Int.fdiv_eq_ediv_of_nonneg _ (Int.natCast_nonneg _),<-Int.natCast_ediv];congr 1;by_cases h:i<=k.bits
 .rw [zW h]
 .have h2:a<2^k.bits:=zE ha (zC (by decide) (Aon k));rw[Nat.min_eq_right (by omega),zU h2,zU (zE h2 (zC (by decide) (by omega)))]
def Asz{k:IntKind}{i:Nat}(hi:i<top k):shlw k 1 (i:Int)=((2^i:Nat):Int):=by
 unfold shlw;have h2:=Aon k;rw[zT,zW (by omega),Int.one_mul];have e:((2:Int)^i)=((2^i:Nat):Int):=by simp
 rw[e];exact Ae0 (Nat.pow_lt_pow_right (by decide) hi)
def Bca{k:IntKind}{a i:Nat}(ha:a<2^top k)(hk:0<top k):bAnd k (shrw k (a:Int) (i:Int)) 1=if a.testBit i then 1 else 0:=by
 rw[Adz ha];have h1:(1:Nat)<2^top k:=Nat.one_lt_two_pow (by omega);have:=Adv (k:=k) (a:=a / 2^i) (b:=1) (zF (Nat.div_le_self _ _) ha) h1;rw[show((1:Nat):Int)=1 from rfl]at this;rw[this,Nat.and_one_is_mod,Nat.testBit_eq_decide_div_mod_eq];by_cases h:a / 2^i%2=1
 .simp [h]
 .have:a / 2^i%2=0:=by omega
  simp[this]
def Ahb(f:Nat->Bool):Nat->Nat
 |0=>0
 |n+1=>Ahb f n+if f n then 2^n else 0
def Aq4{f:Nat->Bool}:∀n,Ahb f n<2^n
 |0=>by simp[Ahb]
 |n+1=>by
  have:=Aq4 (f:=f) n;simp only[Ahb,Nat.pow_succ]
  split<;>omega
def Akh{f:Nat->Bool}{i:Nat}:∀{n},(Ahb f n).testBit i=(decide (i<n)&&f i)
 |0=>by simp[Ahb]
 |n+1=>by
  have h:=Aq4 (f:=f) n;have ih:=Akh (f:=f) (i:=i) (n:=n);simp only[Ahb];by_cases hin:i=n
  .subst hin;have h0:(Ahb f i).testBit i=false:=zD h;cases hf:f i
   .simp [h0]
   .rw [if_pos rfl,Nat.add_comm,Nat.testBit_two_pow_add_eq,h0];simp
  .have e:decide (i<n+1)=decide (i<n):=by
    by_cases h1:i<n
    .simp [h1];omega
    .simp [h1];omega
   rw[e];cases hf:f n
   .simpa using ih
   .rw [if_pos rfl,<-ih];by_cases h1:i<n
    .rw [Nat.add_comm,Nat.testBit_two_pow_add_gt h1]
    .rw [zD (x:=Ahb f n) (zE h (zC (by decide) (by omega)))];apply zD;have:2^(n+1)<=2^i:=zC (by decide) (by omega);rw[Nat.pow_succ]at this;omega
def Aoo{x:Int}(h:okI .u8 x):0<=x/\x<256:=by
 have h1:=h.1;have h2:=h.2;have e1:IntKind.min .u8=0:=rfl;have e2:IntKind.max .u8=255:=rfl;omega
def Bls{a b:Nat}:a &&& b=a↔∀i,a.testBit i=true->b.testBit i=true:=by
 constructor
 .intro h i hi;have:=congrArg (·.testBit i) h;simp only[zA,hi,zP]at this;exact this
 .intro h;apply zH;intro i;rw[zA];cases ha:a.testBit i with
  |false=>rfl
  |true=>rw[h i ha];rfl
def Ad1{a n:Nat}:a<2^n↔∀i,a.testBit i=true->i<n:=by
 constructor
 .intro h i hi
  false_or_by_contra
  rw[zD (zE h (zC (by decide) (by omega)))]at hi;cases hi
 .intro h;apply Nat.lt_pow_two_of_testBit;intro i hi;cases ha:a.testBit i with
  |false=>rfl
  |true=>have:=h i ha;omega
def Aup{a b n:Nat}:a ||| b<2^n↔a<2^n/\b<2^n:=by
 constructor
 .intro h;exact⟨zF Nat.left_le_or h,zF Nat.right_le_or h⟩
 .exact fun h=>zS h.1 h.2
def Afi{a b:Nat}:Aa7 a b=0↔∀i,a.testBit i=true->b.testBit i=true:=by
 constructor
 .intro h i hi;have:=congrArg (·.testBit i) h;simp only[Aa9,hi,zI,zP]at this;simpa using this
 .intro h;apply zH;intro i;rw[Aa9,zI];cases ha:a.testBit i with
  |false=>rfl
  |true=>rw[h i ha];rfl
def Azd{a n:Nat}:a / 2^n=0↔a<2^n:=by
 rw[Nat.div_eq_zero_iff];have:0<2^n:=Nat.pos_of_ne_zero (by simp);omega
def Abt(m:Nat×Nat)(b:Nat):Bool:=decide (b &&& m.1=0)&&(decide (b &&& m.2≠0)&&decide (Aa7 b m.2≠0))
def Acb(m:Nat×Nat)(bs:List Nat):List Nat:=bs.map (fun b=>if Abt m b=true then b &&& m.2 else b)++(bs.filter (Abt m)).map (fun b=>Aa7 b m.2)
def Aek:List (Nat×Nat)->List Nat->List Nat
 |[],bs=>bs
 |m::mv,bs=>Aek mv (Acb m bs)
def Afw(mv:List (Nat×Nat)):Nat->List Nat->List Nat
 |0,bs=>bs
 |k+1,bs=>if(Aek mv bs).length=bs.length then Aek mv bs else Afw mv k (Aek mv bs)
def Abx{a b:Nat}:a &&& b=0↔∀i,a.testBit i=true->b.testBit i=false:=by
 constructor
 .intro h i hi;have:=congrArg (fun x=>x.testBit i) h;simp only[zA,hi,zP,zI]at this;exact this
 .intro h;apply zH;intro i;rw[zA,zI];cases ha:a.testBit i with
  |false=>rfl
  |true=>rw[h i ha];rfl
def Ap9{a b:Nat}:a &&& b≠0↔∃i,a.testBit i=true/\b.testBit i=true:=by
 constructor
 .intro h;obtain⟨i,hi⟩:=zG h;rw[zA,zB]at hi;exact⟨i,hi⟩
 .rintro ⟨i,h1,h2⟩ h;have:=Abx.1 h i h1;rw[h2]at this;cases this
def Bid{a b:Nat}:Aa7 a b≠0↔∃i,a.testBit i=true/\b.testBit i=false:=by
 constructor
 .intro h;obtain⟨i,hi⟩:=zG h;rw[Aa9,zB,zQ]at hi;exact⟨i,hi⟩
 .rintro ⟨i,h1,h2⟩ h;have:=Afi.1 h i h1;rw[h2]at this;cases this
def Bae{a:Nat}(h:a≠0):∃i,a.testBit i=true:=zG h
structure BPart(rest:Nat)(bs:List Nat):Prop where
 ne:∀b∈bs,b≠0
 dis:bs.Pairwise fun a b=>a &&& b=0
 all:∀i,rest.testBit i=true↔∃b∈bs,b.testBit i=true
def Agz{m:Nat×Nat}{b:Nat}:Abt m b=true↔b &&& m.1=0/\b &&& m.2≠0/\Aa7 b m.2≠0:=by
 unfold Abt;simp only[zB,decide_eq_true_eq]
def Af1{m:Nat×Nat}{bs:List Nat}{c:Nat}:c∈Acb m bs↔∃b∈bs,(Abt m b=true/\(c=b &&& m.2∨c=Aa7 b m.2))∨(Abt m b=false/\c=b):=by
 unfold Acb;rw[List.mem_append,zO,zO];constructor
 .rintro (⟨b,hb,rfl⟩|⟨b,hb,rfl⟩)
  .cases hs:Abt m b with
   |true=>exact⟨b,hb,.inl ⟨hs,.inl (by simp)⟩⟩
   |false=>exact⟨b,hb,.inr ⟨hs,by simp⟩⟩
  .obtain ⟨h1,h2⟩:=zL.1 hb;exact⟨b,h1,.inl ⟨h2,.inr rfl⟩⟩
 .rintro ⟨b,hb,(⟨hs,h|h⟩|⟨hs,h⟩)⟩
  .exact .inl ⟨b,hb,by rw[if_pos hs,h]⟩
  .exact .inr ⟨b,zL.2 ⟨hb,hs⟩,h.symm⟩
  .exact .inl ⟨b,hb,by rw[hs,h];rfl⟩
def Alg{m:Nat×Nat}{bs:List Nat}:(Acb m bs).length=bs.length+(bs.filter (Abt m)).length:=by
 unfold Acb;simp
def Ay5{m:Nat×Nat}{bs:List Nat}(h:∀b∈bs,Abt m b=false):Acb m bs=bs:=by
 unfold Acb;have h1:bs.filter (Abt m)=[]:=List.filter_eq_nil_iff.2 fun b hb=>by rw[h b hb];simp
 rw[h1,List.map_nil,List.append_nil]
 conv=>rhs;rw[<-List.map_id bs]
 exact List.map_congr_left fun b hb=>by rw[h b hb];rfl
def Bm9(m:Nat×Nat)(b:Nat)(c:Nat):Prop:=(Abt m b=true/\(c=b &&& m.2∨c=Aa7 b m.2))∨(Abt m b=false/\c=b)
def Bhw{m:Nat×Nat}{b c i:Nat}(h:Bm9 m b c)(hc:c.testBit i=true):b.testBit i=true:=by
 rcases h with⟨_,rfl|rfl⟩|⟨_,rfl⟩
 .rw [zA,zB]at hc;exact hc.1
 .rw [Aa9,zB]at hc;exact hc.1
 .exact hc
def Bfg{rest:Nat}{bs:List Nat}(h:BPart rest bs){a b i:Nat}(ha:a∈bs)(hb:b∈bs)(h1:a.testBit i=true)(h2:b.testBit i=true):a=b:=by
 refine Classical.byContradiction fun hne=>?_;have hp:=h.dis;have key:∀{l:List Nat},l.Pairwise (fun a b=>a &&& b=0)->a∈l->b∈l->a &&& b=0:=by
  intro l hp
  induction hp with
  |nil=>intro h;cases h
  | @cons x l hx _ ih=>
   intro ha hb;rcases zN.1 ha with h1|h1<;>rcases zN.1 hb with h2|h2
   .exact absurd (h1.trans h2.symm) hne
   .rw [h1];exact hx _ h2
   .rw [h2,Nat.and_comm];exact hx _ h1
   .exact ih h1 h2
 have:=Abx.1 (key hp ha hb) i h1;rw[h2]at this;cases this
def BPart.split{rest:Nat}{bs:List Nat}(h:BPart rest bs)(m:Nat×Nat):BPart rest (Acb m bs):=by
 constructor
 .intro c hc;obtain⟨b,hb,hh⟩:=Af1.1 hc;rcases hh with⟨hs,rfl|rfl⟩|⟨_,rfl⟩
  .exact (Agz.1 hs).2.1
  .exact (Agz.1 hs).2.2
  .exact h.ne _ hb
 .unfold Acb;refine List.pairwise_append.2 ⟨?_,?_,?_⟩
  .refine zR.2 (h.dis.imp fun {a b} hab=>?_);rw[Abx]at hab⊢;intro i hi;have h1:a.testBit i=true:=by
    split at hi
    .rw [zA,zB]at hi;exact hi.1
    .exact hi
   have h2:=hab i h1
   split
   .rw [zA,h2];rfl
   .exact h2
  .refine zR.2 ((h.dis.filter _).imp fun {a b} hab=>?_);rw[Abx]at hab⊢;intro i hi;rw[Aa9,zB]at hi;rw[Aa9,hab i hi.1];rfl
  .intro c hc d hd;obtain⟨a,ha,rfl⟩:=zO.1 hc;obtain⟨b,hb,rfl⟩:=zO.1 hd;obtain⟨hb,hs⟩:=zL.1 hb;rw[Abx];intro i hi;cases hn:(Aa7 b m.2).testBit i with
   |false=>rfl
   |true=>
    rw[Aa9,zB,zQ]at hn;have hai:a.testBit i=true:=by
     split at hi
     .rw [zA,zB]at hi;exact hi.1
     .exact hi
    have:=Bfg h ha hb hai hn.1;subst this;rw[if_pos hs,zA,zB]at hi;rw[hi.2]at hn;cases hn.2
 .intro i;rw[h.all i];constructor
  .rintro ⟨b,hb,hi⟩;cases hs:Abt m b with
   |false=>exact⟨b,Af1.2 ⟨b,hb,.inr ⟨hs,rfl⟩⟩,hi⟩
   |true=>
    cases hr:m.2.testBit i with
    |true=>exact⟨_,Af1.2 ⟨b,hb,.inl ⟨hs,.inl rfl⟩⟩,by rw[zA,hi,hr];rfl⟩
    |false=>exact⟨_,Af1.2 ⟨b,hb,.inl ⟨hs,.inr rfl⟩⟩,by rw[Aa9,hi,hr];rfl⟩
  .rintro ⟨c,hc,hi⟩;obtain⟨b,hb,hh⟩:=Af1.1 hc;exact⟨b,hb,Bhw hh hi⟩
def BPart.pass{rest:Nat}:∀{mv:List (Nat×Nat)}{bs:List Nat},BPart rest bs->BPart rest (Aek mv bs)
 |[],_,h=>h
 |m::mv,bs,h=>(BPart.pass (mv:=mv) (h.split m):BPart rest (Aek mv (Acb m bs)))
def Ama{mv:List (Nat×Nat)}:∀{bs:List Nat},bs.length<=(Aek mv bs).length:=by
 induction mv with
 |nil=>intro bs;exact Nat.le_refl _
 |cons m mv ih=>intro bs;exact Nat.le_trans (by rw[Alg];omega) (ih (bs:=Acb m bs))
def Bgb{mv:List (Nat×Nat)}:∀{bs:List Nat},(Aek mv bs).length=bs.length->Aek mv bs=bs/\∀m∈mv,∀b∈bs,Abt m b=false:=by
 induction mv with
 |nil=>intro bs _;exact⟨rfl,by simp⟩
 |cons m mv ih=>
  intro bs h;have h1:=Ama (mv:=mv) (bs:=Acb m bs);have h2:=Alg (m:=m) (bs:=bs);have h:(Aek mv (Acb m bs)).length=bs.length:=h;have h0:(bs.filter (Abt m)).length=0:=by omega
  have hs:∀b∈bs,Abt m b=false:=fun b hb=>by
   cases hq:Abt m b with
   |false=>rfl
   |true=>
    have:=zL.2 ⟨hb,hq⟩;rw[List.length_eq_zero_iff.1 h0]at this;cases this
  have he:=Ay5 hs;have:=ih (bs:=bs) (by rw[<-he];rw[he];rw[he]at h;exact h);refine⟨by show Aek mv (Acb m bs)=bs;rw[he];exact this.1,?_⟩;intro m' hm' b hb;rcases zN.1 hm' with rfl|hm'
  .exact hs b hb
  .exact this.2 m' hm' b hb
def Ast:∀{n:Nat}{l:List Nat},l.Nodup->(∀x∈l,x<n)->l.length<=n
 |0,l,_,h=>by
  cases l with
  |nil=>exact Nat.le_refl _
  |cons x l=>exact absurd (h x (by simp)) (by omega)
 |n+1,l,hn,h=>by
  have h1:=Ast (n:=n) (l:=l.filter fun x=>x != n) (hn.filter _) fun x hx=>by
   obtain⟨hx,hne⟩:=zL.1 hx;have:=h x hx;have:x≠n:=by simpa using hne
   omega
  have h2:(l.filter fun x=>x != n).length+l.count n=l.length:=by
   clear h h1 hn
   induction l with
   |nil=>rfl
   |cons x l ih=>
    by_cases hx:x=n
    .subst hx;simp;omega
    .simp [hx];omega
  have h3:l.count n<=1:=List.nodup_iff_count.1 hn n;omega
def BPart.len{rest n:Nat}{bs:List Nat}(h:BPart rest bs)(hr:rest<2^n):bs.length<=n:=by
 have hex:∀b∈bs,∃i,b.testBit i=true:=fun b hb=>Bae (h.ne b hb);obtain⟨f,hf⟩:∃f:Nat->Nat,∀b∈bs,b.testBit (f b)=true:=⟨open Classical in fun b=>if h:∃i,b.testBit i=true then h.choose else 0,fun b hb=>by
  have hq:=hex b hb
  dsimp only;rw[dif_pos hq];exact hq.choose_spec⟩
 have hlt:∀b∈bs,f b<n:=fun b hb=>Ad1.1 hr _ ((h.all _).2 ⟨b,hb,hf b hb⟩);have hnd:(bs.map f).Nodup:=by
  refine zR.2 ?_;have:bs.Pairwise fun a b=>a∈bs/\b∈bs/\a &&& b=0:=List.Pairwise.imp_of_mem (fun ha hb h=>⟨ha,hb,h⟩) h.dis;refine this.imp fun {a b} ⟨ha,hb,h0⟩ he=>?_;have h1:=hf a ha;have:=Abx.1 h0 _ h1;rw[he,hf b hb]at this;cases this
 have:=Ast hnd (n:=n) fun x hx=>by
  obtain⟨b,hb,rfl⟩:=zO.1 hx;exact hlt b hb
 simpa using this
def BFin(mv:List (Nat×Nat))(bs:List Nat):Prop:=∀m∈mv,∀b∈bs,Abt m b=false
def Aqc{mv:List (Nat×Nat)}{rest n:Nat}(hr:rest<2^n):∀{k:Nat}{bs:List Nat},BPart rest bs->n<k+bs.length->BPart rest (Afw mv k bs)/\BFin mv (Afw mv k bs)
 |0,bs,h,hk=>absurd (h.len hr) (by omega)
 |k+1,bs,h,hk=>by
  simp only[Afw]
  split
  .rename_i he;obtain⟨h1,h2⟩:=Bgb he;rw[h1];exact⟨h,h2⟩
  .rename_i he;have:=Ama (mv:=mv) (bs:=bs);exact Aqc hr h.pass (by omega)
section
variable{ρ:Type}(T:ρ->Prop)(A:ρ->ρ->Prop)(eq:ρ->ρ->Nat->Prop)(n:Nat)
def Exch(Y:Nat):Prop:=∀r s,T r->T s->A r s->∃u,T u/\A u s/\A r u/\(∀i,i<n->Y.testBit i=true->eq u r i)/\(∀i,i<n->Y.testBit i=false->eq u s i)
def MvH(m:Nat×Nat):Prop:=∀r s,T r->T s->(∀i,i<n->m.1.testBit i=true->eq r s i)->∃u,T u/\(∀i,i<n->(m.1 ||| m.2).testBit i=true->eq u r i)/\(∀i,i<n->(m.1 ||| m.2).testBit i=false->eq u s i)
structure EqOK:Prop where
 refl:∀r i,eq r r i
 symm:∀{r s i},eq r s i->eq s r i
 trans:∀{r s t i},eq r s i->eq s t i->eq r t i
variable{T A eq n}
def Atl(he:EqOK eq){x:Nat}(hA:∀r s,A r s↔∀i,i<n->x.testBit i=true->eq r s i){b:Nat}{m:Nat×Nat}(hbx:b &&& x=0)(hb:Exch T A eq n b)(hm:MvH T eq n m)(h0:b &&& m.1=0):Exch T A eq n (b &&& m.2)/\Exch T A eq n (Aa7 b m.2):=by
 have first:Exch T A eq n (b &&& m.2):=by
  intro r s hr hs ha;obtain⟨r',h1,_,_,h4,h5⟩:=hb r s hr hs ha;obtain⟨u,k1,k2,k3⟩:=hm r' s h1 hs fun i hi hl=>h5 i hi (by
   cases hbi:b.testBit i with
   |false=>rfl
   |true=>rw[Abx.1 h0 i hbi]at hl;cases hl)
  have hin:∀i,i<n->(b &&& m.2).testBit i=true->eq u r i:=fun i hi hq=>by
   rw[zA,zB]at hq;exact he.trans (k2 i hi (by rw[zM,hq.2];simp)) (h4 i hi hq.1)
  have hout:∀i,i<n->(b &&& m.2).testBit i=false->eq u s i:=fun i hi hq=>by
   cases hl:(m.1 ||| m.2).testBit i with
   |false=>exact k3 i hi hl
   |true=>
    refine he.trans (k2 i hi hl) (h5 i hi ?_);cases hbi:b.testBit i with
    |false=>rfl
    |true=>
     have h1:=Abx.1 h0 i hbi;rw[zA,hbi,zP]at hq;rw[zM,h1,hq]at hl;cases hl
  have hx:∀i,i<n->x.testBit i=true->eq u s i:=fun i hi hq=>hout i hi (by
   cases hbi:b.testBit i with
   |false=>rw[zA,hbi];rfl
   |true=>rw[Abx.1 hbx i hbi]at hq;cases hq)
  exact⟨u,k1,(hA _ _).2 hx,(hA _ _).2 fun i hi hq=>he.trans ((hA _ _).1 ha i hi hq) (he.symm (hx i hi hq)),hin,hout⟩
 refine⟨first,?_⟩;intro r s hr hs ha;obtain⟨r',h1,h2,h3,h4,h5⟩:=hb r s hr hs ha;have hsr:A s r':=(hA _ _).2 fun i hi hq=>he.symm ((hA _ _).1 h2 i hi hq);obtain⟨u,k1,k2,k3,k4,k5⟩:=first s r' hs h1 hsr
 have hout:∀i,i<n->(Aa7 b m.2).testBit i=false->eq u s i:=fun i hi hq=>by
  cases hc:(b &&& m.2).testBit i with
  |true=>exact k4 i hi hc
  |false=>
   refine he.trans (k5 i hi hc) (h5 i hi ?_);cases hbi:b.testBit i with
   |false=>rfl
   |true=>
    rw[Aa9,hbi]at hq;rw[zA,hbi]at hc;cases hm2:m.2.testBit i<;>simp_all
 have hx:∀i,i<n->x.testBit i=true->eq u s i:=fun i hi hq=>hout i hi (by
  cases hbi:b.testBit i with
  |false=>rw[Aa9,hbi];rfl
  |true=>rw[Abx.1 hbx i hbi]at hq;cases hq)
 refine⟨u,k1,(hA _ _).2 hx,(hA _ _).2 fun i hi hq=>he.trans ((hA _ _).1 ha i hi hq) (he.symm (hx i hi hq)),fun i hi hq=>?_,hout⟩;rw[Aa9,zB,zQ]at hq;exact he.trans (k5 i hi (by rw[zA,hq.2,Bool.and_false])) (h4 i hi hq.1)
def Axy(he:EqOK eq){x:Nat}(hA:∀r s,A r s↔∀i,i<n->x.testBit i=true->eq r s i){m:Nat×Nat}(hm:MvH T eq n m){bs:List Nat}(hx:∀b∈bs,b &&& x=0)(hb:∀b∈bs,Exch T A eq n b):∀c∈Acb m bs,Exch T A eq n c:=by
 intro c hc;obtain⟨b,h1,hh⟩:=Af1.1 hc;rcases hh with⟨hs,rfl|rfl⟩|⟨_,rfl⟩
 .exact (Atl he hA (hx b h1) (hb b h1) hm (Agz.1 hs).1).1
 .exact (Atl he hA (hx b h1) (hb b h1) hm (Agz.1 hs).1).2
 .exact hb _ h1
def Apm(he:EqOK eq){x rest:Nat}(hA:∀r s,A r s↔∀i,i<n->x.testBit i=true->eq r s i)(hrx:rest &&& x=0):∀{mv:List (Nat×Nat)},(∀m∈mv,MvH T eq n m)->∀{bs:List Nat},BPart rest bs->(∀b∈bs,Exch T A eq n b)->∀c∈Aek mv bs,Exch T A eq n c
 |[],_,_,_,h=>h
 |m::mv,hm,bs,hp,h=>Apm he hA hrx (fun m' h'=>hm m' (zK _ h')) (hp.split m) (Axy he hA (hm m (by simp)) (fun b hb=>by
   rw[Abx]at hrx⊢;intro i hi
   exact hrx i ((hp.all i).2 ⟨b,hb,hi⟩)) h)
def Arm(he:EqOK eq){x rest:Nat}(hA:∀r s,A r s↔∀i,i<n->x.testBit i=true->eq r s i)(hrx:rest &&& x=0){mv:List (Nat×Nat)}(hm:∀m∈mv,MvH T eq n m):∀{k:Nat}{bs:List Nat},BPart rest bs->(∀b∈bs,Exch T A eq n b)->∀c∈Afw mv k bs,Exch T A eq n c
 |0,_,_,h=>h
 |k+1,bs,hp,h=>by
  simp only[Afw]
  split
  .exact Apm he hA hrx hm hp h
  .exact Arm he hA hrx hm hp.pass (Apm he hA hrx hm hp h)
def Atm(he:EqOK eq){x:Nat}(hA:∀r s,A r s↔∀i,i<n->x.testBit i=true->eq r s i)(P:Nat->Bool):∀{bs:List Nat},(∀b∈bs,Exch T A eq n b)->∃z:Nat,Exch T A eq n z/\∀i,z.testBit i=true↔∃b∈bs,b.testBit i=true/\P b=true
 |[],_=>⟨0,fun r s hr hs ha=>⟨s,hs,(hA _ _).2 (fun i _ _=>he.refl s i),ha,fun i _ h=>(by rw[zI]at h;cases h),fun i _ _=>he.refl s i⟩,fun i=>by simp⟩
 |b::bs,h=>by
  obtain⟨z,h1,h2⟩:=Atm he hA P fun b hb=>h b (zK _ hb);cases hp:P b with
  |false=>
   refine⟨z,h1,fun i=>?_⟩;rw[h2 i];constructor
   .rintro ⟨c,hc,hq⟩;exact⟨c,zK _ hc,hq⟩
   .rintro ⟨c,hc,hq⟩;rcases zN.1 hc with rfl|hc
    .rw [hp]at hq;cases hq.2
    .exact ⟨c,hc,hq⟩
  |true=>
   refine⟨z ||| b,?_,fun i=>?_⟩
   .intro r s hr hs ha;obtain⟨t,a1,a2,a3,a4,a5⟩:=h1 r s hr hs ha;obtain⟨u,c1,c2,c3,c4,c5⟩:=h b (by simp) r t hr a1 a3;refine⟨u,c1,(hA _ _).2 fun i hi hq=>he.trans ((hA _ _).1 c2 i hi hq) ((hA _ _).1 a2 i hi hq),c3,fun i hi hq=>?_,fun i hi hq=>?_⟩
    .cases hbi:b.testBit i with
     |true=>exact c4 i hi hbi
     |false=>
      rw[zM,hbi,Bool.or_false]at hq;exact he.trans (c5 i hi hbi) (a4 i hi hq)
    .rw [zM,Bool.or_eq_false_iff]at hq;exact he.trans (c5 i hi hq.2) (a5 i hi hq.1)
   .rw [zM,Bool.or_eq_true,h2 i];constructor
    .rintro (⟨c,hc,hq⟩|hq)
     .exact ⟨c,zK _ hc,hq⟩
     .exact ⟨b,by simp,hq,hp⟩
    .rintro ⟨c,hc,hq⟩;rcases zN.1 hc with rfl|hc
     .exact .inr hq.1
     .exact .inl ⟨c,hc,hq⟩
end
end Go.Own
