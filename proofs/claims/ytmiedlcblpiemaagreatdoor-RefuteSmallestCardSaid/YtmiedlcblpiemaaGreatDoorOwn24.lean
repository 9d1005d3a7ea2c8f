/- An interpreter of function bodies, sound. No conditions. -/
import Derived.Laws.BitsLemmas
import Derived.Test.YtmiedlcblpiemaaGreatDoorOwn17
import Derived.Test.YtmiedlcblpiemaaGreatDoorOwn19
set_option linter.all false
open Prod.mk renaming injEq->zA
namespace Go.Own
theorem Ab0{α:Type}{l:List α}{k:Nat}{x:α}{r:List α}(h:l.drop k=x::r):l[k]?=some x:=by
 have:(l.drop k)[0]?=some x:=by rw[h];rfl
 simpa using this
theorem Aah{α:Type}{l:List α}{k:Nat}{x:α}{r:List α}(h:l.drop k=x::r):l.drop (k+1)=r:=by
 have:(l.drop k).drop 1=r:=by rw[h];rfl
 rw[List.drop_drop]at this;exact this
theorem Abf{α:Type}{l:List α}{k:Nat}{x:α}{r:List α}(h:l.drop k=x::r):k<l.length:=by
 rcases Nat.lt_or_ge k l.length with hk|hk
 .exact hk
 .rw [List.drop_eq_nil_of_le hk]at h;cases h
theorem Abe{α:Type}{l:List α}{k:Nat}(h:l.drop k=[]):l.length<=k:=by simpa using h
theorem Abb{α:Type}{l:List α}{k:Nat}{x:α}{r:List α}(h:l.drop k=x::r):lget l (k:Int)=some x:=by
 simp[lget,Ab0 h]
theorem Abk{α:Type}{l:List α}{k:Nat}:lget l (k:Int)=l[k]?:=by simp[lget]
theorem Ag3{α:Type}{l:List α}{i:Int}(h0:0<=i)(h:i<l.length):∃a,lget l i=some a:=by
 refine⟨l[i.toNat]'(by omega),?_⟩;unfold lget;rw[if_pos h0,List.getElem?_eq_getElem]
theorem Abw{α:Type}{l:List α}{i:Int}{a:α}:(lset l i a).length=l.length:=by simp[lset]
theorem Akx{α:Type}{l:List α}{i j:Int}{a:α}(hi:0<=i)(hj:0<=j):lget (lset l i a) j=if i=j then(if i<l.length then some a else none)else lget l j:=by
 simp only[lget,lset,if_pos hj,List.getElem?_set];by_cases h:i=j
 .subst h;simp only[if_true];by_cases h2:i<l.length
  .have:i.toNat<l.length:=by omega
   simp[h2,this]
  .have:¬i.toNat<l.length:=by omega
   simp[h2,this]
 .have:¬i.toNat=j.toNat:=by omega
  simp[h,this]
theorem Ady{x:Int}(h : -9223372036854775808<=x)(h2:x<9223372036854775808):IntKind.wrap .i64 x=x:=by
 rw[IntKind.wrap_i64];omega
theorem Aa4{n:Nat}(h:n+1<9223372036854775808):IntKind.wrap .i64 ((n:Int)+1)=((n+1:Nat):Int):=by
 rw[Ady]<;>omega
abbrev Big:Nat:=9223372036854775808
end Go.Own
namespace Go.Own
end Go.Own
namespace Go.Own
open D
abbrev Key3:=ByteArray×ByteArray×ByteArray
def Agx(kf:Nat)(l p q:Int)(k:List Key3->Ask):List (List D)->List Key3->Ask
 |[],acc=>k acc
 |[.lit (.int .i64 id),.sl vs]::rs,acc=>.call kf [.agg [.lit (.int .i64 id),.sl vs],.lit (.int .u32 l)] fun x=>match x with
  |(.lit (.string s1),[])=>.call kf [.agg [.lit (.int .i64 id),.sl vs],.lit (.int .u32 p)] fun x=>match x with
   |(.lit (.string s2),[])=>.call kf [.agg [.lit (.int .i64 id),.sl vs],.lit (.int .u32 q)] fun x=>match x with
    |(.lit (.string s3),[])=>if s2.size+s3.size<=9223372036854775807 then Agx kf l p q k rs (acc++[(s1,s2,s3)])else .ret none
    |_=>.ret none
   |_=>.ret none
  |_=>.ret none
 |_::_,_=>.ret none
def grpH(L:List Key3)(s:ByteArray):List Key3:=L.filter fun y=>y.1==s
def okH(L:List Key3):Bool:=L.all fun x=>(dd ((grpH L x.1).map fun y=>y.2.1)).length*(dd ((grpH L x.1).map fun y=>y.2.2)).length==(dd ((grpH L x.1).map fun y=>y.2.1++y.2.2)).length
def resH(b:Bool)(e:Int):D:=.tup [.lit (.bool b),.lit (.int .i64 e)]
def Af0(l r:Int):Int:=Alm .u32 r l
def Agp(n l r:Int):Int:=Alm .u32 (IntKind.wrap .u32 (shlw .u32 1 n-1)) (bOr .u32 l r)
def Ado(vf kf : Nat) : List D -> Ask
  |[.agg [.lit (.string nm), .sl ats, .sl rows], .agg [.lit (.int .u32 l), .lit (.int .u32 r)]] =>
    .call vf [.agg [.lit (.string nm), .sl ats, .sl rows]] fun x => match x with
      | (.lit (.int .i64 e), []) => if e = 0 then (if shrw .u32 (bOr .u32 l r) (ats.length : Int) = 0 then (if rows.length <= 1000000 then Agx kf l (Af0 l r) (Agp ats.length l r) (fun L => .ret (some (resH (okH L) 0, []))) rows [] else .ret none)
          else .ret (some (resH false 1, [])))else .ret (some (resH false e, []))
      |_ => .ret none
  |_ => .ret none
def Arb(call:Nat->List D->Option (D×List D))(kf:Nat)(l p q:Int):List (List D)->List Key3->Prop
 |[],L=>L=[]
 |r::rs,L=>∃s1 s2 s3 L' id vs,r=[.lit (.int .i64 id),.sl vs]/\L=(s1,s2,s3)::L'/\call kf [.agg r,.lit (.int .u32 l)]=some (.lit (.string s1),[])/\call kf [.agg r,.lit (.int .u32 p)]=some (.lit (.string s2),[])/\call kf [.agg r,.lit (.int .u32 q)]=some (.lit (.string s3),[])/\s2.size+s3.size<=9223372036854775807/\Arb call kf l p q rs L'
theorem Arh{call:Nat->List D->Option (D×List D)}{kf:Nat}{l p q:Int}{k:List Key3->Ask}{x:D×List D}:∀{rs:List (List D)}{acc:List Key3},runAsk call (Agx kf l p q k rs acc)=some x->∃L,Arb call kf l p q rs L/\runAsk call (k (acc++L))=some x
 |[],acc,h=>⟨[],rfl,by rw[List.append_nil];exact h⟩
 |r::rs,acc,h=>by
  by_cases hr:∃id vs,r=[.lit (.int .i64 id),.sl vs]
  .obtain ⟨id,vs,rfl⟩:=hr;simp only[Agx,runAsk]at h
   split at h
   case h_2=>cases h
   rename_i x1 e1
   split at h
   case h_2=>simp[runAsk]at h
   rename_i s1;simp only[runAsk]at h
   split at h
   case h_2=>cases h
   rename_i x2 e2
   split at h
   case h_2=>simp[runAsk]at h
   rename_i s2;simp only[runAsk]at h
   split at h
   case h_2=>cases h
   rename_i x3 e3
   split at h
   case h_2=>simp[runAsk]at h
   rename_i s3
   split at h
   case isFalse=>simp[runAsk]at h
   rename_i hsz;obtain⟨L,h1,h2⟩:=Arh h;exact⟨(s1,s2,s3)::L,⟨s1,s2,s3,L,id,vs,rfl,rfl,e1,e2,e3,hsz,h1⟩,by rw[List.append_assoc]at h2;exact h2⟩
  .exfalso;unfold Agx at h
   split at h
   .rename_i he;cases he
   .rename_i he;simp only[List.cons.injEq]at he;exact hr ⟨_,_,he.1⟩
   .simp [runAsk]at h
theorem Ay2{call:Nat->List D->Option (D×List D)}{vf kf:Nat}{ds:List D}{r:D}{outs:List D}(h:runAsk call (Ado vf kf ds)=some (r,outs)):
  ∃nm ats rows l q e,ds=[.agg [.lit (.string nm),.sl ats,.sl rows],.agg [.lit (.int .u32 l),.lit (.int .u32 q)]]/\call vf [.agg [.lit (.string nm),.sl ats,.sl rows]]=some (.lit (.int .i64 e),[])/\outs=[] /\
   ((e≠0/\r=resH false e)∨(e=0/\shrw .u32 (bOr .u32 l q) (ats.length:Int)≠0/\r=resH false 1) ∨
    (e=0/\shrw .u32 (bOr .u32 l q) (ats.length:Int)=0/\rows.length<=1000000/\∃L,Arb call kf l (Af0 l q) (Agp ats.length l q) rows L/\r=resH (okH L) 0)):=by
 unfold Ado at h
 split at h
 case h_2=>simp[runAsk]at h
 rename_i nm ats rows l q;simp only[runAsk]at h
 split at h
 case h_2=>cases h
 rename_i x hx
 split at h
 case h_2=>simp[runAsk]at h
 rename_i e;refine⟨nm,ats,rows,l,q,e,rfl,hx,?_⟩;by_cases he:e=0
 .rw [if_pos he]at h;by_cases hs:shrw .u32 (bOr .u32 l q) (ats.length:Int)=0
  .rw [if_pos hs]at h;by_cases hn:rows.length<=1000000
   .rw [if_pos hn]at h;obtain⟨L,h1,h2⟩:=Arh h;simp only[runAsk,List.nil_append,zJ,zA]at h2;exact⟨h2.2.symm,.inr (.inr ⟨he,hs,hn,L,h1,h2.1.symm⟩)⟩
   .rw [if_neg hn]at h;simp[runAsk]at h
  .rw [if_neg hs]at h;simp only[runAsk,zJ,zA]at h;exact⟨h.2.symm,.inr (.inl ⟨he,hs,h.1.symm⟩)⟩
 .rw [if_neg he]at h;simp only[runAsk,zJ,zA]at h;exact⟨h.2.symm,.inl ⟨he,h.1.symm⟩⟩
end Go.Own
