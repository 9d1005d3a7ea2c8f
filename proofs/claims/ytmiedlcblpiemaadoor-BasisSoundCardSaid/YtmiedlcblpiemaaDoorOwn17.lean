/- An interpreter of function bodies, sound. No conditions. -/
import Derived.Test.YtmiedlcblpiemaaDoorOwn14
import Derived.Test.YtmiedlcblpiemaaDoorOwn7
set_option linter.all false
namespace Go.Own
open D
section
variable {E:Env} {f:Nat} {V:List Nat} {F:Fr} {Q:Ex->Fr->Prop} {body:Code} {p:List Nat} {j:Nat} {s:St} {d d':D} {cs cs':List D}
theorem Abr:flatCs []=true:=rfl
theorem Aaq (h:d.flat=true) (hs:flatCs cs=true):flatCs (d::cs)=true:=by simp only [flatCs,h,hs,Bool.and_self]
theorem Apy (hs:flatCs cs=true):(D.agg cs).flat=true:=by simp only [D.flat,hs]
theorem Ad3 (hs:flatCs cs=true):(D.tup cs).flat=true:=by simp only [D.flat,hs]
def bstr (l:List UInt8):ByteArray:=⟨l.toArray⟩
def tz32 (n:Int):Int:=Ac6 n.toNat 32 0
theorem Awu {g:Nat} {pr:List D->Option (D×List D)} {ds:List D} {r:D} {outs:List D} (h:E.prim g=some pr) (h2:pr ds=some (r,outs)):Ret E g ds r outs:=
 Ret.of (n:=1) (by simp only [Ab6,h,h2])
theorem Bbr {g:Nat} {n:Int} (h:E.prim g=some Aid) (h2:0<=n/\n<4294967296):Ret E g [.lit (.int .u32 n)] (.lit (.int .i64 (tz32 n))) []:=
 Awu h (by simp [Aid,tz32,h2])
theorem Aub {g k b:Nat} {α:Type} {e:Enc α} {l:List α} (h:E.prim g=some (Aic k b)) (hk:∀ x,(e x).length=k) (hl:l.length*b<=140737488355328):Ret E g [.sl (l.map e)] (.own (l.map e)) []:=
 Awu h (by
  show (if (∀ x∈l.map e,x.length=k)/\(l.map e).length*b<=140737488355328 then some (D.own (l.map e),([]:List D)) else none)=_
  rw [if_pos ⟨fun x hx=>by obtain ⟨a,_,rfl⟩:=List.mem_map.1 hx;exact hk a,by rw [List.length_map];exact hl⟩])
end
end Go.Own
namespace Go.Own
open D
theorem Asn:freezeCs []=some []:=rfl
theorem Agl {c c':D} {cs cs':List D} (h:c.freeze=some c') (hs:freezeCs cs=some cs'):freezeCs (c::cs)=some (c'::cs'):=by simp only [freezeCs,h,hs]
end Go.Own
namespace Go.Own
open D
section
variable {α:Type} {e e':Enc α} {l:List α} {F:Fr} {s:Nat}
def sown (es:List (List D)) (b:Bool):D:=if b || !es.isEmpty then .own es else .sl []
theorem Baq {b c:Bool} (hb:b=true) (h:Fzn e id e):coldD b (sown (l.map e) c)=some (.sl (l.map e)):=by
 subst hb;unfold sown
 split
 ·exact Aff h l
 ·rename_i hc;cases l with
  | nil=>rfl
  | cons a l=>exact absurd (by simp) hc
theorem Bb0 {c:Bool} (h:Flt e):(sown (l.map e) c).flatR=true:=by
 unfold sown
 split
 ·exact flatR_of (Ab3 h)
 ·rfl
theorem Bd4 {α:Type} {c:Prop} [Decidable c] {a:α} {x:Option α} (h:x=some a):(if c then some a else x)=some a:=by split<;>simp_all
end
end Go.Own
namespace Go.Own
open D
section
variable {E:Env} {f:Nat} {V:List Nat} {F:Fr} {o:Oper} {call:Aao} {α:Type} {e:Enc α} {l m:List α} {t et k s n off len:Nat} {ps:Path} {x:Operand} {z:D}
def clr (e:Enc α) (l:List α) (off len:Nat) (z:D):List (List D):=(l.map e).take off++List.replicate len z.cells++(l.map e).drop (off+len)
theorem Ay2 (h:off+len<=l.length):(clr e l off len z).length=l.length:=by simp [clr];omega
theorem Bcp (h:off+len<=l.length) (hn:n<=off):(clr e l off len z).take n=(l.take n).map e:=by
 unfold clr;rw [List.append_assoc,List.take_append_of_le_length (by simp;omega),List.take_take,Nat.min_eq_left hn,List.map_take]
theorem Bdi (ho:o.op=.call { callee:=.builtin .clear,args:=#[x],argTypes:=#[t] }) (hx:opd E F x=some (.sub s ps off len)) (hg:getAt F s ps=some (.own (l.map e))) (ht:sliceT E.P t=some et) (hz:zeroT E.P et=some z) (hzl:z.cells.length=k) (hs:sizeT E.P et=k) (hp:Nat.blt 0 k=true) (hk:∀ x,(e x).length=k) (hl:off+len<=l.length)
  (hset:(setAt F s ps (.own (clr e l off len z))).isSome=true):opC E f V call F o=some (fin (killB (setG F s ps (.own (clr e l off len z))) s ps) o.dst (.tup [])):=by
 have hp:0<k:=Ai2 hp;have h3:((l.map e).all fun c=>c.length == k)=true:=by simp [List.all_eq_true,hk]
 unfold opC;have hs':=Bfq hset;unfold clr at hs';simp only [ho,builtinC,hx,ht,hg,hz,hzl,hs,List.length_map];rw [if_pos ⟨hl,trivial,hp,h3⟩,hs'];rfl
theorem Aur {hi:Option Operand} {hi':Nat} (ho:o.op=.slice t x none hi none) (hx:opd E F x=some (.alias s ps)) (hg:getAt F s ps=some (.own (clr e l off len z))) (h2:optNat E F hi=some (some hi')) (ht:sliceT E.P t=some et) (hs:sizeT E.P et=k) (hk:∀ x,(e x).length=k) (hzl:z.cells.length=k) (hp:Nat.blt 0 k=true) (hl:off+len<=l.length) (h4:hi'<=l.length) :
  valC E f call F o=some (.sub s ps 0 hi'):=by
 have hp:0<k:=Ai2 hp;have hw:wide k (clr e l off len z)=true:=by
  have hall:∀ c∈clr e l off len z,c.length=k:=by
   intro c hc;simp only [clr,List.mem_append] at hc;rcases hc with (hc | hc) | hc
   ·obtain ⟨a,_,rfl⟩:=List.mem_map.1 (List.mem_of_mem_take hc);exact hk a
   ·rw [(List.mem_replicate.1 hc).2];exact hzl
   ·obtain ⟨a,_,rfl⟩:=List.mem_map.1 (List.mem_of_mem_drop hc);exact hk a
  cases hc:clr e l off len z with
  | nil=>rfl
  | cons a r=>have:=hall a (by rw [hc];simp);simp [wide,this]
 unfold valC;have hlen:=Ay2 (e:=e) (z:=z) hl;simp only [ho,hx,h2,Aez,sliceD,ht,elemsOf,hg,hlen,hs,hw];simp [h4,hp]
theorem Bbd {fd:Func} {N:Nat} {es:List (List D)} (hr:fd.results.toList=[.tmp t]) (ht:get F t=.sub s [] 0 n) (hg:getAt F s []=some (.own es)) (hn:n<=es.length) (hm:es.take n=m.map e) (hl:Abu E f 0 N=[]):Adp E f fd N F=some (sown (m.map e) (!m.isEmpty),[]):=by
 have hml:m.length=n:=by
  have:=congrArg List.length hm;simp at this;omega
 unfold Adp;simp only [hr,Ae1,resC,takeOp,ht,takeSlot,takeSub,hg];by_cases h0:n=0
 ·subst h0;have:m=[]:=List.length_eq_zero_iff.1 hml;subst this;simp [hl,Amc,sown]
 ·have hset:(setAt F s [] D.undef)=some (put0 F s D.undef):=by simp [setAt,D.setP]
  rw [if_neg h0];have hmn:m≠[]:=fun h=>h0 (by rw [← hml,h];rfl);have:sown (m.map e) (!m.isEmpty)=.own (m.map e):=by
   cases m with
   | nil=>exact absurd rfl hmn
   | cons a r=>rfl
  simp [hn,hset,hl,Amc,this,hm]
end
end Go.Own
namespace Go.Own
open D
def Ak4 (l:List Int):ByteArray:=⟨(l.map fun x=>UInt8.ofNat x.toNat).toArray⟩
theorem Axd {l:List Int} (h:∀ x∈l,0<=x/\x<256):bytesOfD (l.map (eI .u8))=some (l.map fun x=>UInt8.ofNat x.toNat):=by
 induction l with
 | nil=>rfl
 | cons a l ih=>
  have ha:=h a (by simp);simp only [List.map_cons,bytesOfD,ih fun x hx=>h x (by simp [hx])];simp [eI,byteOfD,ha]
theorem Ao9 {E:Env} {f:Nat} {F:Fr} {o:Oper} {call:Aao} {s t et:Nat} {x:Operand} {d:D} {l:List Int} (ho:o.op=.convert s t x) (hx:opd E F x=some d) (hd:elemsOf F d=some (l.map (eI .u8))) (hs:E.P.underlying s=some (.slice et)) (he:E.P.underlying et=some (.int .u8)) (ht:E.P.underlying t=some .string) (h:∀ x∈l,0<=x/\x<256) :
  valC E f call F o=some (.lit (.string (Ak4 l))):=by
 unfold valC;simp only [ho,hx,convertD,hs,ht];cases d with
 | lit v=>simp [elemsOf] at hd
 | _=>simp only [he,hd,Axd h,Option.map_some,Ak4]
end Go.Own
namespace Go.Own
theorem ne_eq {E:Env} {F F':Fr} {y:Operand} {a:List (List D)} (h:newElems E F y=some (a,F')):newElems E F y=some (a,newF E F y):=by
 unfold newF;rw [h]
end Go.Own
namespace Go.Own
open D
end Go.Own
namespace Go.Own
open D
theorem Az6 {cs cs':List D} (h:freezeCs cs=some cs'):(D.agg cs).freeze=some (.agg cs'):=by simp only [D.freeze,h,Option.map_some]
theorem Bcr {b:Bool} {cs cs':List D} (hb:b=true) (h:freezeCs cs=some cs'):coldD b (.tup cs)=some (.tup cs'):=by
 subst hb;simp only [coldD,if_true,h,Option.map_some]
end Go.Own
namespace Go.Own
open D
end Go.Own
