/- An interpreter of function bodies without memory, proved sound for the model. No conditions. -/
import Derived.Test.YteenpfaegjdkoaaGreatOwn15
import Derived.Test.YteenpfaegjdkoaaGreatOwn8
set_option linter.all false
namespace Go.Own
open D
section
variable {E:Env} {f:Nat} {V:List Nat} {F:Fr} {Q:Ex→Fr→Prop} {body:Code} {p:List Nat} {j:Nat} {s:St} {d d':D} {cs cs':List D}
theorem snaps_nil:snaps1 F []=some []:=rfl
theorem snap1_of (h:snapD F d=some d') (hn:∀ cs,d≠.agg cs) (hf:∀ g cs,d≠.fn g cs):snap1 F d=some d':=by
 cases d with
 | agg cs=>exact absurd rfl (hn cs)
 | fn g cs=>exact absurd rfl (hf g cs)
 | _=>exact h
def oneC:D→Bool
 | .agg _=>false
 | .fn _ _=>false
 | _=>true
theorem snaps_cons (h:snapD F d=some d') (hs:snaps1 F cs=some cs') (ho:oneC d=true:=by rfl):snaps1 F (d::cs)=some (d'::cs'):=by
 have:snap1 F d=some d':=snap1_of h (fun cs hc=>by subst hc;cases ho) (fun g cs hc=>by subst hc;cases ho)
 simp only [snaps1,this,hs]
theorem snap_agg (hs:snaps1 F cs=some cs'):snapD F (.agg cs)=some (.agg cs'):=by simp only [snapD,hs,Option.map_some]
theorem flts_nil:flatCs []=true:=rfl
theorem flts_cons (h:d.flat=true) (hs:flatCs cs=true):flatCs (d::cs)=true:=by simp only [flatCs,h,hs,Bool.and_self]
theorem flat_agg (hs:flatCs cs=true):(D.agg cs).flat=true:=by simp only [D.flat,hs]
theorem flat_tup (hs:flatCs cs=true):(D.tup cs).flat=true:=by simp only [D.flat,hs]
def bstr (l:List UInt8):ByteArray:=⟨l.toArray⟩
theorem ret_prim {g:Nat} {pr:List D→Option (D×List D)} {ds:List D} {r:D} {outs:List D} (h:E.prim g=some pr) (h2:pr ds=some (r,outs)):Ret E g ds r outs:=
 Ret.of (n:=1) (by simp only [callN,h,h2])
theorem ret_write {g t e:Nat} {l:List UInt8} {b:ByteArray} (h:E.prim g=some (primWrite t e)) (h2:l.length+b.size≤140737488355328):Ret E g [.bld t e l,.lit (.string b)] (.tup [.lit (.int .i64 b.size),.lit .nilIface]) [.bld t e (l++b.data.toList)]:=
 ret_prim h (by simp [primWrite,h2])
theorem ret_string {g t e:Nat} {l:List UInt8} (h:E.prim g=some (primString t e)):Ret E g [.bld t e l] (.lit (.string (bstr l))) [.box [.undef,.undef]]:=
 ret_prim h (by simp [primString,bstr])
theorem ret_cmp {g:Nat} {a b:ByteArray} (h:E.prim g=some primCmp):Ret E g [.lit (.string a),.lit (.string b)] (.lit (.int .i64 (bcmp a b))) []:=
 ret_prim h rfl
theorem ret_clone {g k b:Nat} {α:Type} {e:Enc α} {l:List α} (h:E.prim g=some (primClone k b)) (hk:∀ x,(e x).length=k) (hl:l.length*b≤140737488355328):Ret E g [.sl (l.map e)] (.own (l.map e)) []:=
 ret_prim h (by
  show (if (∀ x∈l.map e,x.length=k)∧(l.map e).length*b≤140737488355328 then some (D.own (l.map e),([]:List D)) else none)=_
  rw [if_pos ⟨fun x hx=>by obtain ⟨a,_,rfl⟩:=List.mem_map.1 hx;exact hk a,by rw [List.length_map];exact hl⟩])
end
end Go.Own
namespace Go.Own
open D
theorem fcs_nil:freezeCs []=some []:=rfl
theorem fcs_cons {c c':D} {cs cs':List D} (h:c.freeze=some c') (hs:freezeCs cs=some cs'):freezeCs (c::cs)=some (c'::cs'):=by simp only [freezeCs,h,hs]
end Go.Own
namespace Go.Own
open D
section
variable {α:Type} {e e':Enc α} {l:List α} {F:Fr} {s:Nat}
theorem ite_both {α:Type} {c:Prop} [Decidable c] {a:α} {x:Option α} (h:x=some a):(if c then some a else x)=some a:=by split<;>simp_all
end
end Go.Own
namespace Go.Own
open D
section
variable {E:Env} {f:Nat} {V:List Nat} {F:Fr} {o:Oper} {call:Caller} {α:Type} {e:Enc α} {l m:List α} {t et k s n off len:Nat} {ps:Path} {x:Operand} {z:D}
end
end Go.Own
namespace Go.Own
open D
def bstrI (l:List Int):ByteArray:=⟨(l.map fun x=>UInt8.ofNat x.toNat).toArray⟩
theorem bytesOf_map {l:List Int} (h:∀ x∈l,0≤x∧x<256):bytesOfD (l.map (eI .u8))=some (l.map fun x=>UInt8.ofNat x.toNat):=by
 induction l with
 | nil=>rfl
 | cons a l ih=>
  have ha:=h a (by simp)
  simp only [List.map_cons,bytesOfD,ih fun x hx=>h x (by simp [hx])]
  simp [eI,byteOfD,ha]
theorem val_tostr {E:Env} {f:Nat} {F:Fr} {o:Oper} {call:Caller} {s t et:Nat} {x:Operand} {d:D} {l:List Int} (ho:o.op=.convert s t x) (hx:opd E F x=some d) (hd:elemsOf F d=some (l.map (eI .u8))) (hs:E.P.underlying s=some (.slice et)) (he:E.P.underlying et=some (.int .u8)) (ht:E.P.underlying t=some .string) (h:∀ x∈l,0≤x∧x<256) :
  valC E f call F o=some (.lit (.string (bstrI l))):=by
 unfold valC
 simp only [ho,hx,convertD,hs,ht]
 cases d with
 | lit v=>simp [elemsOf] at hd
 | _=>simp only [he,hd,bytesOf_map h,Option.map_some,bstrI]
end Go.Own
namespace Go.Own
theorem ne_eq {E:Env} {F F':Fr} {y:Operand} {a:List (List D)} (h:newElems E F y=some (a,F')):newElems E F y=some (a,newF E F y):=by
 unfold newF;rw [h]
end Go.Own
namespace Go.Own
open D
end Go.Own
namespace Go.Own
open D
theorem freeze_agg {cs cs':List D} (h:freezeCs cs=some cs'):(D.agg cs).freeze=some (.agg cs'):=by simp only [D.freeze,h,Option.map_some]
theorem cold_tup {b:Bool} {cs cs':List D} (hb:b=true) (h:freezeCs cs=some cs'):coldD b (.tup cs)=some (.tup cs'):=by
 subst hb;simp only [coldD,if_true,h,Option.map_some]
end Go.Own
namespace Go.Own
open D
def eqT (E:Env) (t:Nat) (xs ys:List D):Option Bool:=match E.P.underlying t with
 | some (.struct fs)=>if E.P.stoodInHeld t || E.P.eqGuardType E.P.depth t then none else eqFieldsD E.P xs ys fs.toList
 | _=>none
def eqs:List Bool→Option Bool
 | []=>some true
 | b::bs=>if b then eqs bs else some false
theorem eqs_all:∀ l:List Bool,eqs l=some (l.all id)
 | []=>rfl
 | true::l=>by simp [eqs,eqs_all l]
 | false::l=>by simp [eqs]
theorem eqT_bin {E:Env} {t:Nat} {xs ys:List D} {b:Bool} (h:eqT E t xs ys=some b):binD E .eql t (.agg xs) (.agg ys)=some (.lit (.bool b))∧binD E .neq t (.agg xs) (.agg ys)=some (.lit (.bool !b)):=by
 unfold eqT at h
 unfold binD
 split at h
 ·rename_i fs hu
  split at h
  ·cases h
  ·rename_i hg
   simp only [hu,hg,h]
   exact ⟨rfl,rfl⟩
 ·cases h
theorem bin_aeq {E:Env} {t:Nat} {xs ys:List D} {l:List Bool} (K:eqT E t xs ys=eqs l:=by kernel_rfl):binD E .eql t (.agg xs) (.agg ys)=some (.lit (.bool (l.all id))):=(eqT_bin (K.trans (eqs_all l))).1
theorem bin_ane {E:Env} {t:Nat} {xs ys:List D} {l:List Bool} (K:eqT E t xs ys=eqs l:=by kernel_rfl):binD E .neq t (.agg xs) (.agg ys)=some (.lit (.bool (!(l.all id)))):=(eqT_bin (K.trans (eqs_all l))).2
end Go.Own
