/- An interpreter of function bodies, sound. No conditions. -/
import Derived.Test.YtmiedlcblpiemaaDoorOwn14
import Derived.Test.YtmiedlcblpiemaaDoorOwn7
set_option linter.all false
namespace Go.Own
open D
section
variable {E:Env} {f:Nat} {V:List Nat} {F:Fr} {Q:Ex->Fr->Prop} {body:Code} {p:List Nat} {j:Nat} {s:St} {d d':D} {cs cs':List D}
theorem Ans:flatCs []=true:=rfl
theorem Af3 (h:d.flat=true) (hs:flatCs cs=true):flatCs (d::cs)=true:=by simp only [flatCs,h,hs,Bool.and_self]
theorem Anq (hs:flatCs cs=true):(D.tup cs).flat=true:=by simp only [D.flat,hs]
def bstr (l:List UInt8):ByteArray:=⟨l.toArray⟩
def tz32 (n:Int):Int:=Abn n.toNat 32 0
theorem Azz {g:Nat} {pr:List D->Option (D×List D)} {ds:List D} {r:D} {outs:List D} (h:E.prim g=some pr) (h2:pr ds=some (r,outs)):Ret E g ds r outs:=
 Ret.of (n:=1) (by simp only [Ab2,h,h2])
theorem Ayd {g:Nat} {n:Int} (h:E.prim g=some Ago) (h2:0<=n/\n<4294967296):Ret E g [.lit (.int .u32 n)] (.lit (.int .i64 (tz32 n))) []:=
 Azz h (by simp [Ago,tz32,h2])
end
end Go.Own
namespace Go.Own
open D
end Go.Own
namespace Go.Own
open D
section
variable {α:Type} {e e':Enc α} {l:List α} {F:Fr} {s:Nat}
end
end Go.Own
namespace Go.Own
open D
section
variable {E:Env} {f:Nat} {V:List Nat} {F:Fr} {o:Oper} {call:Aai} {α:Type} {e:Enc α} {l m:List α} {t et k s n off len:Nat} {ps:Path} {x:Operand} {z:D}
end
end Go.Own
namespace Go.Own
open D
def Ai6 (l:List Int):ByteArray:=⟨(l.map fun x=>UInt8.ofNat x.toNat).toArray⟩
theorem Auk {l:List Int} (h:∀ x∈l,0<=x/\x<256):bytesOfD (l.map (eI .u8))=some (l.map fun x=>UInt8.ofNat x.toNat):=by
 induction l with
 | nil=>rfl
 | cons a l ih=>
  have ha:=h a (by simp);simp only [List.map_cons,bytesOfD,ih fun x hx=>h x (by simp [hx])];simp [eI,byteOfD,ha]
theorem Alx {E:Env} {f:Nat} {F:Fr} {o:Oper} {call:Aai} {s t et:Nat} {x:Operand} {d:D} {l:List Int} (ho:o.op=.convert s t x) (hx:opd E F x=some d) (hd:elemsOf F d=some (l.map (eI .u8))) (hs:E.P.underlying s=some (.slice et)) (he:E.P.underlying et=some (.int .u8)) (ht:E.P.underlying t=some .string) (h:∀ x∈l,0<=x/\x<256) :
  valC E f call F o=some (.lit (.string (Ai6 l))):=by
 unfold valC;simp only [ho,hx,convertD,hs,ht];cases d with
 | lit v=>simp [elemsOf] at hd
 | _=>simp only [he,hd,Auk h,Option.map_some,Ai6]
end Go.Own
namespace Go.Own
theorem ne_eq {E:Env} {F F':Fr} {y:Operand} {a:List (List D)} (h:newElems E F y=some (a,F')):newElems E F y=some (a,newF E F y):=by
 unfold newF;rw [h]
end Go.Own
namespace Go.Own
open D
end Go.Own
namespace Go.Own
open D
end Go.Own
namespace Go.Own
open D
end Go.Own
