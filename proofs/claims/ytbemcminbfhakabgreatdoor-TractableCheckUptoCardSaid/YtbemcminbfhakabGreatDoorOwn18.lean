/- An interpreter of function bodies without memory, proved sound for the model. No conditions. -/
import Derived.Test.YtbemcminbfhakabGreatDoorOwn15
import Derived.Test.YtbemcminbfhakabGreatDoorOwn8
set_option linter.all false
namespace Go.Own
open D
section
variable {E:Env} {f:Nat} {V:List Nat} {F:Fr} {Q:Ex→Fr→Prop} {body:Code} {p:List Nat} {j:Nat} {s:St} {d d':D} {cs cs':List D}
def oneC:D→Bool
 | .agg _=>false
 | .fn _ _=>false
 | _=>true
theorem flts_nil:flatCs []=true:=rfl
theorem flts_cons (h:d.flat=true) (hs:flatCs cs=true):flatCs (d::cs)=true:=by simp only [flatCs,h,hs,Bool.and_self]
theorem flat_agg (hs:flatCs cs=true):(D.agg cs).flat=true:=by simp only [D.flat,hs]
theorem flat_tup (hs:flatCs cs=true):(D.tup cs).flat=true:=by simp only [D.flat,hs]
theorem ret_prim {g:Nat} {pr:List D→Option (D×List D)} {ds:List D} {r:D} {outs:List D} (h:E.prim g=some pr) (h2:pr ds=some (r,outs)):Ret E g ds r outs:=
 Ret.of (n:=1) (by simp only [callN,h,h2])
theorem ret_clone {g k b:Nat} {α:Type} {e:Enc α} {l:List α} (h:E.prim g=some (primClone k b)) (hk:∀ x,(e x).length=k) (hl:l.length*b≤140737488355328):Ret E g [.sl (l.map e)] (.own (l.map e)) []:=
 ret_prim h (by
  show (if (∀ x∈l.map e,x.length=k)∧(l.map e).length*b≤140737488355328 then some (D.own (l.map e),([]:List D)) else none)=_
  rw [if_pos ⟨fun x hx=>by obtain ⟨a,_,rfl⟩:=List.mem_map.1 hx;exact hk a,by rw [List.length_map];exact hl⟩])
end
end Go.Own
namespace Go.Own
open D
theorem fcs_nil:freezeCs []=some []:=rfl
theorem fcs_cons {c c':D} {cs cs':List D} (h:c.freeze=some c') (hs:freezeCs cs=some cs'):freezeCs (c::cs)=some (c'::cs'):=by simp only [freezeCs,h,hs]
end Go.Own
namespace Go.Own
open D
def leads1 (s:Nat):D→Bool
 | alias s' p=>s' == s&&!p.isEmpty
 | sub s' p _ _=>s' == s&&!p.isEmpty
 | place s' p _ _=>s' == s&&!p.isEmpty
 | _=>false
theorem kill1_same {s:Nat} {q:Path} (hq:q≠[]):∀ {d:D},leads1 s d=false→kill1 (deadIn s q) d=d:=by
 have hp:∀ p:Path,p.isEmpty=true→D.pre q p=false:=fun p h=>by
  cases p with
  | nil=>cases q with
   | nil=>exact absurd rfl hq
   | cons _ _=>rfl
  | cons _ _=>cases h
 intro d h
 cases d with
 | alias s' p=>
  simp only [leads1,Bool.and_eq_false_iff,Bool.not_eq_false'] at h
  simp only [kill1,deadIn]
  rcases h with h | h
  ·simp [h]
  ·simp [hp p h]
 | sub s' p a b=>
  simp only [leads1,Bool.and_eq_false_iff,Bool.not_eq_false'] at h
  simp only [kill1,deadIn]
  rcases h with h | h
  ·simp [h]
  ·simp [hp p h]
 | place s' p a b=>
  simp only [leads1,Bool.and_eq_false_iff,Bool.not_eq_false'] at h
  simp only [kill1,deadIn]
  rcases h with h | h
  ·simp [h]
  ·simp [hp p h]
 | _=>rfl
theorem kill1s_same {s:Nat} {q:Path} (hq:q≠[]):∀ {cs:List D},cs.any (leads1 s)=false→cs.map (kill1 (deadIn s q))=cs
 | [],_=>rfl
 | c::cs,h=>by
  simp only [List.any_cons,Bool.or_eq_false_iff] at h
  simp only [List.map_cons,kill1_same hq h.1,kill1s_same hq h.2]
section
variable {α:Type} {e e':Enc α} {l:List α} {F:Fr} {s:Nat}
def sown (es:List (List D)) (b:Bool):D:=if b || !es.isEmpty then .own es else .sl []
theorem cold_sown {b c:Bool} (hb:b=true) (h:Fzn e id e):coldD b (sown (l.map e) c)=some (.sl (l.map e)):=by
 subst hb
 unfold sown
 split
 ·exact freeze_ow h l
 ·rename_i hc
  cases l with
  | nil=>rfl
  | cons a l=>exact absurd (by simp) hc
theorem flat_sown {c:Bool} (h:Flt e):(sown (l.map e) c).flatR=true:=by
 unfold sown
 split
 ·exact flatR_of (flat_ow h)
 ·rfl
theorem ite_both {α:Type} {c:Prop} [Decidable c] {a:α} {x:Option α} (h:x=some a):(if c then some a else x)=some a:=by split<;>simp_all
end
end Go.Own
namespace Go.Own
open D
section
variable {E:Env} {f:Nat} {V:List Nat} {F:Fr} {o:Oper} {call:Caller} {α:Type} {e:Enc α} {l m:List α} {t et k s n off len:Nat} {ps:Path} {x:Operand} {z:D}
def clr (e:Enc α) (l:List α) (off len:Nat) (z:D):List (List D):=(l.map e).take off++List.replicate len z.cells++(l.map e).drop (off+len)
theorem clr_len (h:off+len≤l.length):(clr e l off len z).length=l.length:=by simp [clr];omega
theorem clr_take (h:off+len≤l.length) (hn:n≤off):(clr e l off len z).take n=(l.take n).map e:=by
 unfold clr
 rw [List.append_assoc,List.take_append_of_le_length (by simp;omega),List.take_take,Nat.min_eq_left hn,List.map_take]
theorem op_clear (ho:o.op=.call { callee:=.builtin .clear,args:=#[x],argTypes:=#[t] }) (hx:opd E F x=some (.sub s ps off len)) (hg:getAt F s ps=some (.own (l.map e))) (ht:sliceT E.P t=some et) (hz:zeroT E.P et=some z) (hzl:z.cells.length=k) (hs:sizeT E.P et=k) (hp:Nat.blt 0 k=true) (hk:∀ x,(e x).length=k) (hl:off+len≤l.length)
  (hset:(setAt F s ps (.own (clr e l off len z))).isSome=true):opC E f V call F o=some (fin (killB (setG F s ps (.own (clr e l off len z))) s ps) o.dst (.tup [])):=by
 have hp:0<k:=blt_lt hp
 have h3:((l.map e).all fun c=>c.length == k)=true:=by simp [List.all_eq_true,hk]
 unfold opC
 have hs':=setG_eq hset
 unfold clr at hs'
 simp only [ho,builtinC,hx,ht,hg,hz,hzl,hs,List.length_map]
 rw [if_pos ⟨hl,trivial,hp,h3⟩,hs']
 rfl
theorem val_slice_clr {hi:Option Operand} {hi':Nat} (ho:o.op=.slice t x none hi none) (hx:opd E F x=some (.alias s ps)) (hg:getAt F s ps=some (.own (clr e l off len z))) (h2:optNat E F hi=some (some hi')) (ht:sliceT E.P t=some et) (hs:sizeT E.P et=k) (hk:∀ x,(e x).length=k) (hzl:z.cells.length=k) (hp:Nat.blt 0 k=true) (hl:off+len≤l.length) (h4:hi'≤l.length) :
  valC E f call F o=some (.sub s ps 0 hi'):=by
 have hp:0<k:=blt_lt hp
 have hw:wide k (clr e l off len z)=true:=by
  have hall:∀ c∈clr e l off len z,c.length=k:=by
   intro c hc
   simp only [clr,List.mem_append] at hc
   rcases hc with (hc | hc) | hc
   ·obtain ⟨a,_,rfl⟩:=List.mem_map.1 (List.mem_of_mem_take hc);exact hk a
   ·rw [(List.mem_replicate.1 hc).2];exact hzl
   ·obtain ⟨a,_,rfl⟩:=List.mem_map.1 (List.mem_of_mem_drop hc);exact hk a
  cases hc:clr e l off len z with
  | nil=>rfl
  | cons a r=>have:=hall a (by rw [hc];simp);simp [wide,this]
 unfold valC
 have hlen:=clr_len (e:=e) (z:=z) hl
 simp only [ho,hx,h2,optNat_none,sliceD,ht,elemsOf,hg,hlen,hs,hw]
 simp [h4,hp]
theorem leave_sub {fd:Func} {N:Nat} {es:List (List D)} (hr:fd.results.toList=[.tmp t]) (ht:get F t=.sub s [] 0 n) (hg:getAt F s []=some (.own es)) (hn:n≤es.length) (hm:es.take n=m.map e) (hl:lents E f 0 N=[]):leaveC E f fd N F=some (sown (m.map e) (!m.isEmpty),[]):=by
 have hml:m.length=n:=by
  have:=congrArg List.length hm
  simp at this;omega
 unfold leaveC
 simp only [hr,resultsC,resC,takeOp,ht,takeSlot,takeSub,hg]
 by_cases h0:n=0
 ·subst h0
  have:m=[]:=List.length_eq_zero_iff.1 hml
  subst this
  simp [hl,oneOf,sown]
 ·have hset:(setAt F s [] D.undef)=some (put0 F s D.undef):=by simp [setAt,D.setP]
  rw [if_neg h0]
  have hmn:m≠[]:=fun h=>h0 (by rw [← hml,h];rfl)
  have:sown (m.map e) (!m.isEmpty)=.own (m.map e):=by
   cases m with
   | nil=>exact absurd rfl hmn
   | cons a r=>rfl
  simp [hn,hset,hl,oneOf,this,hm]
end
end Go.Own
namespace Go.Own
open D
end Go.Own
namespace Go.Own
theorem ne_eq {E:Env} {F F':Fr} {y:Operand} {a:List (List D)} (h:newElems E F y=some (a,F')):newElems E F y=some (a,newF E F y):=by
 unfold newF;rw [h]
end Go.Own
namespace Go.Own
open D
def leadsW1 (s:Nat):D→Bool
 | alias s' p=>s' == s&&!p.isEmpty
 | sub s' _ _ _=>s' == s
 | place s' _ _ _=>s' == s
 | _=>false
def leadsW (s:Nat):D→Bool
 | agg cs=>cs.any (leadsW1 s)
 | fn _ cs=>cs.any (leadsW1 s)
 | d=>leadsW1 s d
def noLeadW (F:Fr) (s:Nat):Bool:=F.all fun x=>!leadsW s x.2
theorem killW1 {s:Nat}:∀ {d:D},leadsW1 s d=false→kill1 (deadIn s []) d=d:=by
 intro d h
 cases d with
 | alias s' p=>
  simp only [leadsW1,Bool.and_eq_false_iff,Bool.not_eq_false'] at h
  simp only [kill1,deadIn]
  rcases h with h | h
  ·simp [h]
  ·cases p with
   | nil=>simp
   | cons _ _=>cases h
 | sub s' p a b=>simp only [leadsW1] at h;simp [kill1,deadIn,h]
 | place s' p a b=>simp only [leadsW1] at h;simp [kill1,deadIn,h]
 | _=>rfl
theorem killWs {s:Nat}:∀ {cs:List D},cs.any (leadsW1 s)=false→cs.map (kill1 (deadIn s []))=cs
 | [],_=>rfl
 | c::cs,h=>by
  simp only [List.any_cons,Bool.or_eq_false_iff] at h
  simp only [List.map_cons,killW1 h.1,killWs h.2]
theorem killBW {s:Nat}:∀ {F:Fr},noLeadW F s=true→killB F s []=F
 | [],_=>rfl
 | (k,d)::F,h=>by
  simp only [noLeadW,List.all_cons,Bool.and_eq_true,Bool.not_eq_true'] at h
  have ih:=killBW (F:=F) h.2
  simp only [killB,killF,List.map_cons] at ih ⊢
  rw [ih]
  have:kill2 (deadIn s []) d=d:=by
   have h1:=h.1
   cases d with
   | agg cs=>simp only [leadsW] at h1;simp only [kill2,killWs h1]
   | fn g cs=>simp only [leadsW] at h1;simp only [kill2,killWs h1]
   | alias a b=>exact killW1 (d:=alias a b) h1
   | sub a b c d=>exact killW1 (d:=sub a b c d) h1
   | place a b c d=>exact killW1 (d:=place a b c d) h1
   | _=>rfl
  rw [this]
theorem trim_chillW {E:Env} {f k i s:Nat} {V:List Nat} {F F0 F':Fr} {α:Type} {e e':Enc α} {l:List α} (h0:trim0 E f V k i F=F0) (hc:E.chill f k i=[(s,1000)]) (hg:get F0 s=.own (l.map e)) (hf:Fzn e id e') (h2:put0 F0 s (.sl (l.map e'))=F') (hn:noLeadW F' s=true):trim E f V k i F=F':=by
 unfold trim
 rw [hc,h0]
 simp only [chillAll,chill1,hg,if_true]
 have h1:getAt F0 s []=some (.own (l.map e)):=by simp [getAt,D.getP,hg]
 have h3:setAt F0 s [] (.sl (l.map e'))=some F':=by simp [setAt,D.setP,h2]
 simp only [frzAt,h1,D.ex1,if_true,freeze_ow hf,h3,Option.map_some,Option.getD_some]
 exact killBW hn
end Go.Own
namespace Go.Own
open D
theorem cold_tup {b:Bool} {cs cs':List D} (hb:b=true) (h:freezeCs cs=some cs'):coldD b (.tup cs)=some (.tup cs'):=by
 subst hb;simp only [coldD,if_true,h,Option.map_some]
end Go.Own
namespace Go.Own
open D
def eqT (E:Env) (t:Nat) (xs ys:List D):Option Bool:=match E.P.underlying t with
 | some (.struct fs)=>if E.P.stoodInHeld t || E.P.eqGuardType E.P.depth t then none else eqFieldsD E.P xs ys fs.toList
 | _=>none
def eqs:List Bool→Option Bool
 | []=>some true
 | b::bs=>if b then eqs bs else some false
theorem eqs_all:∀ l:List Bool,eqs l=some (l.all id)
 | []=>rfl
 | true::l=>by simp [eqs,eqs_all l]
 | false::l=>by simp [eqs]
theorem eqT_bin {E:Env} {t:Nat} {xs ys:List D} {b:Bool} (h:eqT E t xs ys=some b):binD E .eql t (.agg xs) (.agg ys)=some (.lit (.bool b))∧binD E .neq t (.agg xs) (.agg ys)=some (.lit (.bool !b)):=by
 unfold eqT at h
 unfold binD
 split at h
 ·rename_i fs hu
  split at h
  ·cases h
  ·rename_i hg
   simp only [hu,hg,h]
   exact ⟨rfl,rfl⟩
 ·cases h
theorem bin_aeq {E:Env} {t:Nat} {xs ys:List D} {l:List Bool} (K:eqT E t xs ys=eqs l:=by kernel_rfl):binD E .eql t (.agg xs) (.agg ys)=some (.lit (.bool (l.all id))):=(eqT_bin (K.trans (eqs_all l))).1
end Go.Own
