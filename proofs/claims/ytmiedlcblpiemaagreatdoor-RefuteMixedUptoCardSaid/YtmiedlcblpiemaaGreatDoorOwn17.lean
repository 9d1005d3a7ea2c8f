/- An interpreter of function bodies without memory, proved sound for the model. No conditions. -/
import Derived.Test.YtmiedlcblpiemaaGreatDoorOwn14
import Derived.Test.YtmiedlcblpiemaaGreatDoorOwn7
set_option linter.all false
namespace Go.Own
open D
section
variable {E:Env} {f:Nat} {V:List Nat} {F:Fr} {Q:Ex→Fr→Prop} {body:Code} {p:List Nat} {j:Nat} {s:St} {d d':D} {cs cs':List D}
theorem snaps_nil:snaps1 F []=some []:=rfl
theorem snap1_of (h:snapD F d=some d') (hn:∀ cs,d≠.agg cs) (hf:∀ g cs,d≠.fn g cs):snap1 F d=some d':=by
 cases d with
 | agg cs=>exact absurd rfl (hn cs)
 | fn g cs=>exact absurd rfl (hf g cs)
 | _=>exact h
def oneC:D→Bool
 | .agg _=>false
 | .fn _ _=>false
 | _=>true
theorem snaps_cons (h:snapD F d=some d') (hs:snaps1 F cs=some cs') (ho:oneC d=true:=by rfl):snaps1 F (d::cs)=some (d'::cs'):=by
 have:snap1 F d=some d':=snap1_of h (fun cs hc=>by subst hc;cases ho) (fun g cs hc=>by subst hc;cases ho)
 simp only [snaps1,this,hs]
theorem snap_agg (hs:snaps1 F cs=some cs'):snapD F (.agg cs)=some (.agg cs'):=by simp only [snapD,hs,Option.map_some]
theorem flts_nil:flatCs []=true:=rfl
theorem flts_cons (h:d.flat=true) (hs:flatCs cs=true):flatCs (d::cs)=true:=by simp only [flatCs,h,hs,Bool.and_self]
theorem flat_agg (hs:flatCs cs=true):(D.agg cs).flat=true:=by simp only [D.flat,hs]
theorem flat_tup (hs:flatCs cs=true):(D.tup cs).flat=true:=by simp only [D.flat,hs]
def tz32 (n:Int):Int:=lowest n.toNat 32 0
theorem ret_prim {g:Nat} {pr:List D→Option (D×List D)} {ds:List D} {r:D} {outs:List D} (h:E.prim g=some pr) (h2:pr ds=some (r,outs)):Ret E g ds r outs:=
 Ret.of (n:=1) (by simp only [callN,h,h2])
theorem ret_zeros {g:Nat} {n:Int} (h:E.prim g=some primZeros) (h2:0≤n∧n<4294967296):Ret E g [.lit (.int .u32 n)] (.lit (.int .i64 (tz32 n))) []:=
 ret_prim h (by simp [primZeros,tz32,h2])
theorem ret_clone {g k b:Nat} {α:Type} {e:Enc α} {l:List α} (h:E.prim g=some (primClone k b)) (hk:∀ x,(e x).length=k) (hl:l.length*b≤140737488355328):Ret E g [.sl (l.map e)] (.own (l.map e)) []:=
 ret_prim h (by
  show (if (∀ x∈l.map e,x.length=k)∧(l.map e).length*b≤140737488355328 then some (D.own (l.map e),([]:List D)) else none)=_
  rw [if_pos ⟨fun x hx=>by obtain ⟨a,_,rfl⟩:=List.mem_map.1 hx;exact hk a,by rw [List.length_map];exact hl⟩])
end
end Go.Own
namespace Go.Own
open D
theorem fcs_nil:freezeCs []=some []:=rfl
theorem fcs_cons {c c':D} {cs cs':List D} (h:c.freeze=some c') (hs:freezeCs cs=some cs'):freezeCs (c::cs)=some (c'::cs'):=by simp only [freezeCs,h,hs]
end Go.Own
namespace Go.Own
open D
section
variable {α:Type} {e e':Enc α} {l:List α} {F:Fr} {s:Nat}
def sown (es:List (List D)) (b:Bool):D:=if b || !es.isEmpty then .own es else .sl []
theorem cold_sown {b c:Bool} (hb:b=true) (h:Fzn e id e):coldD b (sown (l.map e) c)=some (.sl (l.map e)):=by
 subst hb
 unfold sown
 split
 ·exact freeze_ow h l
 ·rename_i hc
  cases l with
  | nil=>rfl
  | cons a l=>exact absurd (by simp) hc
theorem flat_sown {c:Bool} (h:Flt e):(sown (l.map e) c).flatR=true:=by
 unfold sown
 split
 ·exact flatR_of (flat_ow h)
 ·rfl
theorem ite_both {α:Type} {c:Prop} [Decidable c] {a:α} {x:Option α} (h:x=some a):(if c then some a else x)=some a:=by split<;>simp_all
end
end Go.Own
namespace Go.Own
open D
section
variable {E:Env} {f:Nat} {V:List Nat} {F:Fr} {o:Oper} {call:Caller} {α:Type} {e:Enc α} {l m:List α} {t et k s n off len:Nat} {ps:Path} {x:Operand} {z:D}
def clr (e:Enc α) (l:List α) (off len:Nat) (z:D):List (List D):=(l.map e).take off++List.replicate len z.cells++(l.map e).drop (off+len)
theorem clr_len (h:off+len≤l.length):(clr e l off len z).length=l.length:=by simp [clr];omega
theorem clr_take (h:off+len≤l.length) (hn:n≤off):(clr e l off len z).take n=(l.take n).map e:=by
 unfold clr
 rw [List.append_assoc,List.take_append_of_le_length (by simp;omega),List.take_take,Nat.min_eq_left hn,List.map_take]
theorem op_clear (ho:o.op=.call { callee:=.builtin .clear,args:=#[x],argTypes:=#[t] }) (hx:opd E F x=some (.sub s ps off len)) (hg:getAt F s ps=some (.own (l.map e))) (ht:sliceT E.P t=some et) (hz:zeroT E.P et=some z) (hzl:z.cells.length=k) (hs:sizeT E.P et=k) (hp:Nat.blt 0 k=true) (hk:∀ x,(e x).length=k) (hl:off+len≤l.length)
  (hset:(setAt F s ps (.own (clr e l off len z))).isSome=true):opC E f V call F o=some (fin (killB (setG F s ps (.own (clr e l off len z))) s ps) o.dst (.tup [])):=by
 have hp:0<k:=blt_lt hp
 have h3:((l.map e).all fun c=>c.length == k)=true:=by simp [List.all_eq_true,hk]
 unfold opC
 have hs':=setG_eq hset
 unfold clr at hs'
 simp only [ho,builtinC,hx,ht,hg,hz,hzl,hs,List.length_map]
 rw [if_pos ⟨hl,trivial,hp,h3⟩,hs']
 rfl
theorem val_slice_clr {hi:Option Operand} {hi':Nat} (ho:o.op=.slice t x none hi none) (hx:opd E F x=some (.alias s ps)) (hg:getAt F s ps=some (.own (clr e l off len z))) (h2:optNat E F hi=some (some hi')) (ht:sliceT E.P t=some et) (hs:sizeT E.P et=k) (hk:∀ x,(e x).length=k) (hzl:z.cells.length=k) (hp:Nat.blt 0 k=true) (hl:off+len≤l.length) (h4:hi'≤l.length) :
  valC E f call F o=some (.sub s ps 0 hi'):=by
 have hp:0<k:=blt_lt hp
 have hw:wide k (clr e l off len z)=true:=by
  have hall:∀ c∈clr e l off len z,c.length=k:=by
   intro c hc
   simp only [clr,List.mem_append] at hc
   rcases hc with (hc | hc) | hc
   ·obtain ⟨a,_,rfl⟩:=List.mem_map.1 (List.mem_of_mem_take hc);exact hk a
   ·rw [(List.mem_replicate.1 hc).2];exact hzl
   ·obtain ⟨a,_,rfl⟩:=List.mem_map.1 (List.mem_of_mem_drop hc);exact hk a
  cases hc:clr e l off len z with
  | nil=>rfl
  | cons a r=>have:=hall a (by rw [hc];simp);simp [wide,this]
 unfold valC
 have hlen:=clr_len (e:=e) (z:=z) hl
 simp only [ho,hx,h2,optNat_none,sliceD,ht,elemsOf,hg,hlen,hs,hw]
 simp [h4,hp]
theorem leave_sub {fd:Func} {N:Nat} {es:List (List D)} (hr:fd.results.toList=[.tmp t]) (ht:get F t=.sub s [] 0 n) (hg:getAt F s []=some (.own es)) (hn:n≤es.length) (hm:es.take n=m.map e) (hl:lents E f 0 N=[]):leaveC E f fd N F=some (sown (m.map e) (!m.isEmpty),[]):=by
 have hml:m.length=n:=by
  have:=congrArg List.length hm
  simp at this;omega
 unfold leaveC
 simp only [hr,resultsC,resC,takeOp,ht,takeSlot,takeSub,hg]
 by_cases h0:n=0
 ·subst h0
  have:m=[]:=List.length_eq_zero_iff.1 hml
  subst this
  simp [hl,oneOf,sown]
 ·have hset:(setAt F s [] D.undef)=some (put0 F s D.undef):=by simp [setAt,D.setP]
  rw [if_neg h0]
  have hmn:m≠[]:=fun h=>h0 (by rw [← hml,h];rfl)
  have:sown (m.map e) (!m.isEmpty)=.own (m.map e):=by
   cases m with
   | nil=>exact absurd rfl hmn
   | cons a r=>rfl
  simp [hn,hset,hl,oneOf,this,hm]
end
end Go.Own
namespace Go.Own
open D
end Go.Own
namespace Go.Own
theorem ne_eq {E:Env} {F F':Fr} {y:Operand} {a:List (List D)} (h:newElems E F y=some (a,F')):newElems E F y=some (a,newF E F y):=by
 unfold newF;rw [h]
end Go.Own
namespace Go.Own
open D
end Go.Own
namespace Go.Own
open D
theorem freeze_agg {cs cs':List D} (h:freezeCs cs=some cs'):(D.agg cs).freeze=some (.agg cs'):=by simp only [D.freeze,h,Option.map_some]
theorem cold_tup {b:Bool} {cs cs':List D} (hb:b=true) (h:freezeCs cs=some cs'):coldD b (.tup cs)=some (.tup cs'):=by
 subst hb;simp only [coldD,if_true,h,Option.map_some]
end Go.Own
namespace Go.Own
open D
end Go.Own
