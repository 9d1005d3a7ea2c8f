/- An interpreter of function bodies, sound. No conditions. -/
import Derived.Test.YtockohmmmlhhfadGreatDoorOwn14
import Derived.Test.YtockohmmmlhhfadGreatDoorOwn7
set_option linter.all false
namespace Go.Own
open D
section
variable {E:Env} {f:Nat} {V:List Nat} {F:Fr} {Q:Ex->Fr->Prop} {body:Code} {p:List Nat} {j:Nat} {s:St} {d d':D} {cs cs':List D}
theorem Bcz:snaps1 F []=some []:=rfl
theorem Bey (h:snapD F d=some d') (hn:∀ cs,d≠.agg cs) (hf:∀ g cs,d≠.fn g cs):snap1 F d=some d':=by
 cases d with
 | agg cs=>exact absurd rfl (hn cs)
 | fn g cs=>exact absurd rfl (hf g cs)
 | _=>exact h
def oneC:D->Bool
 | .agg _=>false
 | .fn _ _=>false
 | _=>true
theorem Bax (h:snapD F d=some d') (hs:snaps1 F cs=some cs') (ho:oneC d=true:=by rfl):snaps1 F (d::cs)=some (d'::cs'):=by
 have:snap1 F d=some d':=Bey h (fun cs hc=>by subst hc;cases ho) (fun g cs hc=>by subst hc;cases ho);simp only [snaps1,this,hs]
theorem Bhl {g:Nat} (hs:snaps1 F cs=some cs'):snapD F (.fn g cs)=some (.fn g cs'):=by simp only [snapD,hs,Option.map_some]
theorem Ab7:flatCs []=true:=rfl
theorem Aa2 (h:d.flat=true) (hs:flatCs cs=true):flatCs (d::cs)=true:=by simp only [flatCs,h,hs,Bool.and_self]
theorem Adx (hs:flatCs cs=true):(D.agg cs).flat=true:=by simp only [D.flat,hs]
theorem Af8 (hs:flatCs cs=true):(D.tup cs).flat=true:=by simp only [D.flat,hs]
def bstr (l:List UInt8):ByteArray:=⟨l.toArray⟩
def tz32 (n:Int):Int:=Ac9 n.toNat 32 0
theorem Ajp {g:Nat} {pr:List D->Option (D×List D)} {ds:List D} {r:D} {outs:List D} (h:E.prim g=some pr) (h2:pr ds=some (r,outs)):Ret E g ds r outs:=
 Ret.of (n:=1) (by simp only [Abb,h,h2])
theorem Bcv {g t e:Nat} {l:List UInt8} {b:ByteArray} (h:E.prim g=some (Aid t e)) (h2:l.length+b.size<=140737488355328):Ret E g [.bld t e l,.lit (.string b)] (.tup [.lit (.int .i64 b.size),.lit .nilIface]) [.bld t e (l++b.data.toList)]:=
 Ajp h (by simp [Aid,h2])
theorem Bar {g t e:Nat} {l:List UInt8} (h:E.prim g=some (Ah8 t e)):Ret E g [.bld t e l] (.lit (.string (bstr l))) [.box [.undef,.undef]]:=
 Ajp h (by simp [Ah8,bstr])
theorem Bcw {g:Nat} {n:Int} (h:E.prim g=some Aie) (h2:0<=n/\n<4294967296):Ret E g [.lit (.int .u32 n)] (.lit (.int .i64 (tz32 n))) []:=
 Ajp h (by simp [Aie,tz32,h2])
theorem Bhi {g:Nat} {a b:ByteArray} (h:E.prim g=some Apd):Ret E g [.lit (.string a),.lit (.string b)] (.lit (.int .i64 (bcmp a b))) []:=
 Ajp h rfl
theorem Auu {g k b:Nat} {α:Type} {e:Enc α} {l:List α} (h:E.prim g=some (Afe k b)) (hk:∀ x,(e x).length=k) (hl:l.length*b<=140737488355328):Ret E g [.sl (l.map e)] (.own (l.map e)) []:=
 Ajp h (by
  show (if (∀ x∈l.map e,x.length=k)/\(l.map e).length*b<=140737488355328 then some (D.own (l.map e),([]:List D)) else none)=_
  rw [if_pos ⟨fun x hx=>by obtain ⟨a,_,rfl⟩:=List.mem_map.1 hx;exact hk a,by rw [List.length_map];exact hl⟩])
end
end Go.Own
namespace Go.Own
open D
theorem Afn:freezeCs []=some []:=rfl
theorem Abl {c c':D} {cs cs':List D} (h:c.freeze=some c') (hs:freezeCs cs=some cs'):freezeCs (c::cs)=some (c'::cs'):=by simp only [freezeCs,h,hs]
theorem Bez {F:Fr} {s:Nat} {ps:Path} {cs cs':List D} (hg:getAt F s ps=some (.box cs)) (h:freezeCs cs=some cs'):snapD F (.alias s ps)=some (.ref cs'):=by
 simp only [snapD,snap1,freezeAt,hg,D.freeze,h,Option.map_some]
end Go.Own
namespace Go.Own
open D
def Aib (s:Nat):D->Bool
 | alias s' p=>s' == s&&!p.isEmpty
 | sub s' p _ _=>s' == s&&!p.isEmpty
 | place s' p _ _=>s' == s&&!p.isEmpty
 | _=>false
def Awr (s:Nat):D->Bool
 | agg cs=>cs.any (Aib s)
 | fn _ cs=>cs.any (Aib s)
 | d=>Aib s d
def Aer (F:Fr) (s:Nat):Bool:=F.all fun x=>!Awr s x.2
theorem Aiq {s:Nat} {q:Path} (hq:q≠[]):∀ {d:D},Aib s d=false->kill1 (deadIn s q) d=d:=by
 have hp:∀ p:Path,p.isEmpty=true->D.pre q p=false:=fun p h=>by
  cases p with
  | nil=>cases q with
   | nil=>exact absurd rfl hq
   | cons _ _=>rfl
  | cons _ _=>cases h
 intro d h;cases d with
 | alias s' p=>
  simp only [Aib,Bool.and_eq_false_iff,Bool.not_eq_false'] at h;simp only [kill1,deadIn];rcases h with h | h
  ·simp [h]
  ·simp [hp p h]
 | sub s' p a b=>
  simp only [Aib,Bool.and_eq_false_iff,Bool.not_eq_false'] at h;simp only [kill1,deadIn];rcases h with h | h
  ·simp [h]
  ·simp [hp p h]
 | place s' p a b=>
  simp only [Aib,Bool.and_eq_false_iff,Bool.not_eq_false'] at h;simp only [kill1,deadIn];rcases h with h | h
  ·simp [h]
  ·simp [hp p h]
 | _=>rfl
theorem Al2 {s:Nat} {q:Path} (hq:q≠[]):∀ {cs:List D},cs.any (Aib s)=false->cs.map (kill1 (deadIn s q))=cs
 | [],_=>rfl
 | c::cs,h=>by
  simp only [List.any_cons,Bool.or_eq_false_iff] at h;simp only [List.map_cons,Aiq hq h.1,Al2 hq h.2]
theorem Aru {s:Nat} {q:Path} (hq:q≠[]):∀ {F:Fr},Aer F s=true->killB F s q=F
 | [],_=>rfl
 | (k,d)::F,h=>by
  simp only [Aer,List.all_cons,Bool.and_eq_true,Bool.not_eq_true'] at h;have ih:=Aru hq (F:=F) h.2;simp only [killB,killF,List.map_cons] at ih ⊢;rw [ih];have:kill2 (deadIn s q) d=d:=by
   have h1:=h.1;cases d with
   | agg cs=>simp only [Awr] at h1;simp only [kill2,Al2 hq h1]
   | fn g cs=>simp only [Awr] at h1;simp only [kill2,Al2 hq h1]
   | alias a b=>exact Aiq (d:=alias a b) hq h1
   | sub a b c d=>exact Aiq (d:=sub a b c d) hq h1
   | place a b c d=>exact Aiq (d:=place a b c d) hq h1
   | _=>rfl
  rw [this]
theorem Awi {F:Fr} {s:Nat} {d:D}:get (put0 F s d) s=d:=by
 induction F with
 | nil=>simp [put0,get]
 | cons x F ih=>
  obtain ⟨k,e⟩:=x;simp only [put0]
  split
  ·simp [get]
  ·rename_i h;simp only [get,if_neg h];exact ih
theorem Bct {F:Fr} {s:Nat} {d d':D}:put0 (put0 F s d) s d'=put0 F s d':=by
 induction F with
 | nil=>simp [put0]
 | cons x F ih=>
  obtain ⟨k,e⟩:=x;simp only [put0]
  split
  ·simp [put0]
  ·rename_i h;simp only [put0,if_neg h,ih]
theorem Ay7 {F:Fr} {s:Nat} {es:List (List D)} (h:Aer F s=true):Aer (put0 F s (own es)) s=true:=by
 induction F with
 | nil=>rfl
 | cons x F ih=>
  obtain ⟨k,e⟩:=x;simp only [Aer,List.all_cons,Bool.and_eq_true] at h;simp only [put0]
  split
  ·simp only [Aer,List.all_cons,Bool.and_eq_true];exact ⟨rfl,h.2⟩
  ·simp only [Aer,List.all_cons,Bool.and_eq_true];exact ⟨h.1,ih h.2⟩
section
variable {α:Type} {e e':Enc α} {l:List α} {F:Fr} {s:Nat}
theorem Atv {l:List (List α)} (hg:get F s=.own (l.map (eOw e))) (hf:Fzn e id e') (hn:Aer F s=true):∀ n,n<=l.length->chillS F s 0 n=put0 F s (.own ((l.take n).map (eSl e')++(l.drop n).map (eOw e)))
 | 0,_=>by
  simp only [chillS,List.take_zero,List.map_nil,List.nil_append,List.drop_zero];rw [← hg];have:∀ F:Fr,(∃ d,get F s=d/\d≠.undef)->put0 F s (get F s)=F:=by
   intro F
   induction F with
   | nil=>rintro ⟨d,h,h2⟩;exact absurd h.symm h2
   | cons x F ih=>
    obtain ⟨k,e⟩:=x;rintro ⟨d,h,h2⟩;simp only [get] at h ⊢;simp only [put0]
    split
    ·rename_i hk;subst hk;rfl
    ·rename_i hk;rw [if_neg hk] at h;rw [ih ⟨d,h,h2⟩]
  exact (this F ⟨_,hg,by simp⟩).symm
 | n+1,hn1=>by
  have ih:=Atv hg hf hn n (by omega);simp only [chillS,ih];have hd:l.drop n=l[n]::l.drop (n+1):=List.drop_eq_getElem_cons (by omega);have hlen:((l.take n).map (eSl e')).length=n:=by simp;omega
  have hat:((l.take n).map (eSl e')++(l.drop n).map (eOw e))[n]? = some [.own (l[n].map e)]:=by
   rw [List.getElem?_append_right (by omega),hlen,Nat.sub_self,hd];rfl
  have h1:getAt (put0 F s (.own ((l.take n).map (eSl e')++(l.drop n).map (eOw e)))) s [(n,0)]=some (.own (l[n].map e)):=by
   simp only [getAt,Awi,D.getP,D.elem,hat];rfl
  have hset:((l.take n).map (eSl e')++(l.drop n).map (eOw e)).set n [.sl (l[n].map e')]=(l.take (n+1)).map (eSl e')++(l.drop (n+1)).map (eOw e):=by
   rw [List.set_append_right _ _ (by omega),hlen,Nat.sub_self,hd,List.map_cons,List.set_cons_zero,List.take_add_one,List.getElem?_eq_getElem (by omega),Option.toList_some,List.map_append,List.append_assoc];rfl
  have h2:setAt (put0 F s (.own ((l.take n).map (eSl e')++(l.drop n).map (eOw e)))) s [(n,0)] (.sl (l[n].map e'))=some (put0 F s (.own ((l.take (n+1)).map (eSl e')++(l.drop (n+1)).map (eOw e)))):=by
   simp only [setAt,Awi,D.setP,D.elem,hat,List.getElem?_cons_zero,D.setElem,List.set_cons_zero,Option.map_some,Bct,hset]
  simp only [frzAt,h1,D.ex1,if_true,Ac0 hf,h2,Option.map_some];exact Aru (by simp) (Ay7 hn)
theorem Ann {l:List (List α)} (hg:get F s=.own (l.map (eOw e))) (hf:Fzn e id e') (hn:Aer F s=true):Anm F s 0=put0 F s (.own (l.map (eSl e'))):=by
 unfold Anm;rw [hg];simp only [Nat.reduceEqDiff,if_false];rw [Atv hg hf hn _ (by simp)];simp
theorem Bb3 {E:Env} {f k i:Nat} {V:List Nat} {F0 F':Fr} {l:List (List α)} (h0:trim0 E f V k i F=F0) (hc:E.chill f k i=[(s,0)]) (hg:get F0 s=.own (l.map (eOw e))) (hf:Fzn e id e') (hn:Aer F0 s=true) (h2:put0 F0 s (.own (l.map (eSl e')))=F'):trim E f V k i F=F':=by
 unfold trim;rw [hc,h0];simp only [chillAll];rw [Ann hg hf hn,h2]
def sown (es:List (List D)) (b:Bool):D:=if b || !es.isEmpty then .own es else .sl []
theorem Bbu {b c:Bool} (hb:b=true) (h:Fzn e id e):coldD b (sown (l.map e) c)=some (.sl (l.map e)):=by
 subst hb;unfold sown
 split
 ·exact Ac0 h l
 ·rename_i hc;cases l with
  | nil=>rfl
  | cons a l=>exact absurd (by simp) hc
theorem Bec {α:Type} {c:Prop} [Decidable c] {a:α} {x:Option α} (h:x=some a):(if c then some a else x)=some a:=by split<;>simp_all
end
end Go.Own
namespace Go.Own
open D
section
variable {E:Env} {f:Nat} {V:List Nat} {F:Fr} {o:Oper} {call:Aan} {α:Type} {e:Enc α} {l m:List α} {t et k s n off len:Nat} {ps:Path} {x:Operand} {z:D}
def clr (e:Enc α) (l:List α) (off len:Nat) (z:D):List (List D):=(l.map e).take off++List.replicate len z.cells++(l.map e).drop (off+len)
theorem Ayq (h:off+len<=l.length):(clr e l off len z).length=l.length:=by simp [clr];omega
theorem Bdx (h:off+len<=l.length) (hn:n<=off):(clr e l off len z).take n=(l.take n).map e:=by
 unfold clr;rw [List.append_assoc,List.take_append_of_le_length (by simp;omega),List.take_take,Nat.min_eq_left hn,List.map_take]
theorem Ber (ho:o.op=.call { callee:=.builtin .clear,args:=#[x],argTypes:=#[t] }) (hx:opd E F x=some (.sub s ps off len)) (hg:getAt F s ps=some (.own (l.map e))) (ht:sliceT E.P t=some et) (hz:zeroT E.P et=some z) (hzl:z.cells.length=k) (hs:sizeT E.P et=k) (hp:Nat.blt 0 k=true) (hk:∀ x,(e x).length=k) (hl:off+len<=l.length)
  (hset:(setAt F s ps (.own (clr e l off len z))).isSome=true):opC E f V call F o=some (fin (killB (setG F s ps (.own (clr e l off len z))) s ps) o.dst (.tup [])):=by
 have hp:0<k:=Agu hp;have h3:((l.map e).all fun c=>c.length == k)=true:=by simp [List.all_eq_true,hk]
 unfold opC;have hs':=Apf hset;unfold clr at hs';simp only [ho,builtinC,hx,ht,hg,hz,hzl,hs,List.length_map];rw [if_pos ⟨hl,trivial,hp,h3⟩,hs'];rfl
theorem Avc {hi:Option Operand} {hi':Nat} (ho:o.op=.slice t x none hi none) (hx:opd E F x=some (.alias s ps)) (hg:getAt F s ps=some (.own (clr e l off len z))) (h2:optNat E F hi=some (some hi')) (ht:sliceT E.P t=some et) (hs:sizeT E.P et=k) (hk:∀ x,(e x).length=k) (hzl:z.cells.length=k) (hp:Nat.blt 0 k=true) (hl:off+len<=l.length) (h4:hi'<=l.length) :
  valC E f call F o=some (.sub s ps 0 hi'):=by
 have hp:0<k:=Agu hp;have hw:wide k (clr e l off len z)=true:=by
  have hall:∀ c∈clr e l off len z,c.length=k:=by
   intro c hc;simp only [clr,List.mem_append] at hc;rcases hc with (hc | hc) | hc
   ·obtain ⟨a,_,rfl⟩:=List.mem_map.1 (List.mem_of_mem_take hc);exact hk a
   ·rw [(List.mem_replicate.1 hc).2];exact hzl
   ·obtain ⟨a,_,rfl⟩:=List.mem_map.1 (List.mem_of_mem_drop hc);exact hk a
  cases hc:clr e l off len z with
  | nil=>rfl
  | cons a r=>have:=hall a (by rw [hc];simp);simp [wide,this]
 unfold valC;have hlen:=Ayq (e:=e) (z:=z) hl;simp only [ho,hx,h2,Ag3,sliceD,ht,elemsOf,hg,hlen,hs,hw];simp [h4,hp]
theorem Bci {fd:Func} {N:Nat} {es:List (List D)} (hr:fd.results.toList=[.tmp t]) (ht:get F t=.sub s [] 0 n) (hg:getAt F s []=some (.own es)) (hn:n<=es.length) (hm:es.take n=m.map e) (hl:Ac4 E f 0 N=[]):Ae8 E f fd N F=some (sown (m.map e) (!m.isEmpty),[]):=by
 have hml:m.length=n:=by
  have:=congrArg List.length hm;simp at this;omega
 unfold Ae8;simp only [hr,Ad3,resC,takeOp,ht,takeSlot,takeSub,hg];by_cases h0:n=0
 ·subst h0;have:m=[]:=List.length_eq_zero_iff.1 hml;subst this;simp [hl,Apa,sown]
 ·have hset:(setAt F s [] D.undef)=some (put0 F s D.undef):=by simp [setAt,D.setP]
  rw [if_neg h0];have hmn:m≠[]:=fun h=>h0 (by rw [← hml,h];rfl);have:sown (m.map e) (!m.isEmpty)=.own (m.map e):=by
   cases m with
   | nil=>exact absurd rfl hmn
   | cons a r=>rfl
  simp [hn,hset,hl,Apa,this,hm]
end
end Go.Own
namespace Go.Own
open D
def Am9 (l:List Int):ByteArray:=⟨(l.map fun x=>UInt8.ofNat x.toNat).toArray⟩
theorem Axw {l:List Int} (h:∀ x∈l,0<=x/\x<256):bytesOfD (l.map (eI .u8))=some (l.map fun x=>UInt8.ofNat x.toNat):=by
 induction l with
 | nil=>rfl
 | cons a l ih=>
  have ha:=h a (by simp);simp only [List.map_cons,bytesOfD,ih fun x hx=>h x (by simp [hx])];simp [eI,byteOfD,ha]
theorem Aop {E:Env} {f:Nat} {F:Fr} {o:Oper} {call:Aan} {s t et:Nat} {x:Operand} {d:D} {l:List Int} (ho:o.op=.convert s t x) (hx:opd E F x=some d) (hd:elemsOf F d=some (l.map (eI .u8))) (hs:E.P.underlying s=some (.slice et)) (he:E.P.underlying et=some (.int .u8)) (ht:E.P.underlying t=some .string) (h:∀ x∈l,0<=x/\x<256) :
  valC E f call F o=some (.lit (.string (Am9 l))):=by
 unfold valC;simp only [ho,hx,convertD,hs,ht];cases d with
 | lit v=>simp [elemsOf] at hd
 | _=>simp only [he,hd,Axw h,Option.map_some,Am9]
end Go.Own
namespace Go.Own
theorem ne_eq {E:Env} {F F':Fr} {y:Operand} {a:List (List D)} (h:newElems E F y=some (a,F')):newElems E F y=some (a,newF E F y):=by
 unfold newF;rw [h]
end Go.Own
namespace Go.Own
open D
def Ago (s:Nat):D->Bool
 | alias s' p=>s' == s&&!p.isEmpty
 | sub s' _ _ _=>s' == s
 | place s' _ _ _=>s' == s
 | _=>false
def Aws (s:Nat):D->Bool
 | agg cs=>cs.any (Ago s)
 | fn _ cs=>cs.any (Ago s)
 | d=>Ago s d
def Atd (F:Fr) (s:Nat):Bool:=F.all fun x=>!Aws s x.2
theorem Arv {s:Nat}:∀ {d:D},Ago s d=false->kill1 (deadIn s []) d=d:=by
 intro d h;cases d with
 | alias s' p=>
  simp only [Ago,Bool.and_eq_false_iff,Bool.not_eq_false'] at h;simp only [kill1,deadIn];rcases h with h | h
  ·simp [h]
  ·cases p with
   | nil=>simp
   | cons _ _=>cases h
 | sub s' p a b=>simp only [Ago] at h;simp [kill1,deadIn,h]
 | place s' p a b=>simp only [Ago] at h;simp [kill1,deadIn,h]
 | _=>rfl
theorem Awq {s:Nat}:∀ {cs:List D},cs.any (Ago s)=false->cs.map (kill1 (deadIn s []))=cs
 | [],_=>rfl
 | c::cs,h=>by
  simp only [List.any_cons,Bool.or_eq_false_iff] at h;simp only [List.map_cons,Arv h.1,Awq h.2]
theorem Bcg {s:Nat}:∀ {F:Fr},Atd F s=true->killB F s []=F
 | [],_=>rfl
 | (k,d)::F,h=>by
  simp only [Atd,List.all_cons,Bool.and_eq_true,Bool.not_eq_true'] at h;have ih:=Bcg (F:=F) h.2;simp only [killB,killF,List.map_cons] at ih ⊢;rw [ih];have:kill2 (deadIn s []) d=d:=by
   have h1:=h.1;cases d with
   | agg cs=>simp only [Aws] at h1;simp only [kill2,Awq h1]
   | fn g cs=>simp only [Aws] at h1;simp only [kill2,Awq h1]
   | alias a b=>exact Arv (d:=alias a b) h1
   | sub a b c d=>exact Arv (d:=sub a b c d) h1
   | place a b c d=>exact Arv (d:=place a b c d) h1
   | _=>rfl
  rw [this]
theorem Ayj {E:Env} {f k i s:Nat} {V:List Nat} {F F0 F':Fr} {α:Type} {e e':Enc α} {l:List α} (h0:trim0 E f V k i F=F0) (hc:E.chill f k i=[(s,1000)]) (hg:get F0 s=.own (l.map e)) (hf:Fzn e id e') (h2:put0 F0 s (.sl (l.map e'))=F') (hn:Atd F' s=true):trim E f V k i F=F':=by
 unfold trim;rw [hc,h0];simp only [chillAll,Anm,hg,if_true];have h1:getAt F0 s []=some (.own (l.map e)):=by simp [getAt,D.getP,hg]
 have h3:setAt F0 s [] (.sl (l.map e'))=some F':=by simp [setAt,D.setP,h2]
 simp only [frzAt,h1,D.ex1,if_true,Ac0 hf,h3,Option.map_some,Option.getD_some];exact Bcg hn
end Go.Own
namespace Go.Own
open D
theorem Ba0 {cs cs':List D} (h:freezeCs cs=some cs'):(D.agg cs).freeze=some (.agg cs'):=by simp only [D.freeze,h,Option.map_some]
theorem Amb {b:Bool} {cs cs':List D} (hb:b=true) (h:freezeCs cs=some cs'):coldD b (.tup cs)=some (.tup cs'):=by
 subst hb;simp only [coldD,if_true,h,Option.map_some]
end Go.Own
namespace Go.Own
open D
def eqT (E:Env) (t:Nat) (xs ys:List D):Option Bool:=match E.P.underlying t with
 | some (.struct fs)=>if E.P.stoodInHeld t || E.P.eqGuardType E.P.depth t then none else eqFieldsD E.P xs ys fs.toList
 | _=>none
def eqs:List Bool->Option Bool
 | []=>some true
 | b::bs=>if b then eqs bs else some false
theorem At2:∀ l:List Bool,eqs l=some (l.all id)
 | []=>rfl
 | true::l=>by simp [eqs,At2 l]
 | false::l=>by simp [eqs]
theorem Ayx {E:Env} {t:Nat} {xs ys:List D} {b:Bool} (h:eqT E t xs ys=some b):binD E .eql t (.agg xs) (.agg ys)=some (.lit (.bool b))/\binD E .neq t (.agg xs) (.agg ys)=some (.lit (.bool !b)):=by
 unfold eqT at h;unfold binD
 split at h
 ·rename_i fs hu
  split at h
  ·cases h
  ·rename_i hg;simp only [hu,hg,h];exact ⟨rfl,rfl⟩
 ·cases h
theorem Aym {E:Env} {t:Nat} {xs ys:List D} {l:List Bool} (K:eqT E t xs ys=eqs l:=by kernel_rfl):binD E .eql t (.agg xs) (.agg ys)=some (.lit (.bool (l.all id))):=(Ayx (K.trans (At2 l))).1
theorem Asz {E:Env} {t:Nat} {xs ys:List D} {l:List Bool} (K:eqT E t xs ys=eqs l:=by kernel_rfl):binD E .neq t (.agg xs) (.agg ys)=some (.lit (.bool (!(l.all id)))):=(Ayx (K.trans (At2 l))).2
end Go.Own
namespace Go.Own
open D
abbrev VRes:=Bool×D×D
abbrev RowP:=Int×List (List D)
def rowD (p:RowP):List D:=[.lit (.int .i64 p.1),.sl p.2]
def Aqt:List D->Option RowP
 | [.lit (.int .i64 i),.sl vs]=>some (i,vs)
 | _=>none
def Aeg:List (List D)->Option (List RowP)
 | []=>some []
 | r::rs=>match Aqt r,Aeg rs with
  | some p,some ps=>some (p::ps)
  | _,_=>none
theorem Ayb {r:List D} {p:RowP} (h:Aqt r=some p):r=rowD p:=by
 unfold Aqt at h
 split at h
 ·cases h;rfl
 ·cases h
theorem Ahd:∀ {rs:List (List D)} {ps:List RowP},Aeg rs=some ps->rs=ps.map rowD
 | [],ps,h=>by cases h;rfl
 | r::rs,ps,h=>by
  simp only [Aeg] at h
  split at h
  ·rename_i p qs h1 h2;cases h;rw [List.map_cons,← Ayb h1,← Ahd h2]
  ·cases h
theorem Agd:∀ (ps:List RowP),Aeg (ps.map rowD)=some ps
 | []=>rfl
 | p::ps=>by simp only [List.map_cons,Aeg,Agd ps];rfl
structure VF where
 chk:Nat
 sat:Nat
 cf:Nat
 cl:Nat
 cn:Nat
 vis:Nat
 srt:Nat
 cmp:Nat
def Ap6 (q:VF) (atoms:List (List D)) (rows:List RowP) (s o:D) (k:VRes->Ask):Ask:=
 .call q.sat [.sl (rows.map rowD),.sl atoms] fun x=>match x with
  | (.lit (.bool true),[])=>.call q.vis [.sl (rows.map rowD),s,o] fun y=>match y with
   | (.lit (.bool b),[.box [.map s'],.box [.own o']])=>k (b,.box [.map s'],.box [.own o'])
   | _=>.ret none
  | (.lit (.bool false),[])=>k (true,s,o)
  | _=>.ret none
def Aki (q:VF) (step:List RowP->D->D->(VRes->Ask)->Ask) (rows:List RowP):List RowP->D->D->(VRes->Ask)->Ask
 | [],s,o,k=>k (true,s,o)
 | r::todo,s,o,k=>.call q.cf [.sl (rows.map rowD),.fn q.cl [.ref (rowD r)]] fun x=>match x with
  | (.lit (.bool true),[])=>Aki q step rows todo s o k
  | (.lit (.bool false),[])=>.call q.cn [.sl (rows.map rowD)] fun y=>match y with
   | (.own rows',[])=>match Aeg rows' with
    | some rs=>if rs.length=rows.length then step (rs++[r]) s o fun z=>if z.1=true then Aki q step rows todo z.2.1 z.2.2 k else k z else .ret none
    | none=>.ret none
   | _=>.ret none
  | _=>.ret none
def Ak4 (q:VF) (atoms:List (List D)) (all:List RowP):Nat->List RowP->D->D->(VRes->Ask)->Ask
 | 0,rows,s,o,k=>Ap6 q atoms rows s o k
 | n+1,rows,s,o,k=>Aki q (Ak4 q atoms all n) rows all s o k
abbrev K3:=Int×Int×Int
def k3V (k:K3):Value:=.agg #[.int .i64 k.1,.int .i64 k.2.1,.int .i64 k.2.2]
def Abe (m:List (K3×Bool)):D:=.map (m.map fun x=>(k3V x.1,D.lit (.bool x.2)))
def idsD (l:List Int):D:=.own (l.map fun i=>[.lit (.int .i64 i)])
def idsS (l:List Int):D:=.sl (l.map fun i=>[.lit (.int .i64 i)])
def outE (o:List (List Int)):D:=.own (o.map fun l=>[idsS l])
def Ajv:List (List D)->Option (List Int)
 | []=>some []
 | [.lit (.int .i64 i)]::r=>(Ajv r).map (i::·)
 | _::_=>none
def Alq:List (Value×D)->Option (List (K3×Bool))
 | []=>some []
 | (.agg cs,.lit (.bool b))::r=>match cs.toList with
  | [.int .i64 x,.int .i64 y,.int .i64 z]=>(Alq r).map (((x,y,z),b)::·)
  | _=>none
 | _::_=>none
def Ajw:List (List D)->Option (List (List Int))
 | []=>some []
 | [.sl l]::r=>match Ajv l,Ajw r with
  | some x,some y=>some (x::y)
  | _,_=>none
 | _::_=>none
theorem Aol:∀ {es:List (List D)} {l:List Int},Ajv es=some l->es=l.map fun i=>[D.lit (.int .i64 i)]
 | [],l,h=>by cases h;rfl
 | e::es,l,h=>by
  unfold Ajv at h
  split at h
  ·rename_i hh;cases hh
  ·rename_i i r hh;cases hh;rw [Option.map_eq_some_iff] at h;obtain ⟨m,h1,rfl⟩:=h;rw [Aol h1];rfl
  ·cases h
theorem Ams:∀ (l:List Int),Ajv (l.map fun i=>[D.lit (.int .i64 i)])=some l
 | []=>rfl
 | i::l=>by simp only [List.map_cons,Ajv,Ams l];rfl
theorem Auy:∀ {es:List (Value×D)} {m:List (K3×Bool)},Alq es=some m->es=m.map fun x=>(k3V x.1,D.lit (.bool x.2))
 | [],m,h=>by cases h;rfl
 | e::es,m,h=>by
  unfold Alq at h
  split at h
  ·rename_i hh;cases hh
  ·rename_i cs b r hh;cases hh
   split at h
   ·rename_i x y z hc;rw [Option.map_eq_some_iff] at h;obtain ⟨m',h1,rfl⟩:=h;rw [List.map_cons,← Auy h1];have:cs=#[.int .i64 x,.int .i64 y,.int .i64 z]:=Array.ext' hc;rw [this];rfl
   ·cases h
  ·cases h
theorem Asg:∀ (m:List (K3×Bool)),Alq (m.map fun x=>(k3V x.1,D.lit (.bool x.2)))=some m
 | []=>rfl
 | x::m=>by
  have ih:=Asg m;simp only [k3V] at ih;simp only [List.map_cons,k3V,Alq,ih];rfl
theorem Aom:∀ {es:List (List D)} {o:List (List Int)},Ajw es=some o->es=o.map fun l=>[idsS l]
 | [],o,h=>by cases h;rfl
 | e::es,o,h=>by
  unfold Ajw at h
  split at h
  ·rename_i hh;cases hh
  ·rename_i l r hh;cases hh
   split at h
   ·rename_i x y h1 h2;cases h;rw [List.map_cons,← Aom h2,Aol h1];rfl
   ·cases h
  ·cases h
theorem Amt:∀ (o:List (List Int)),Ajw (o.map fun l=>[idsS l])=some o
 | []=>rfl
 | l::o=>by
  have ih:=Amt o;simp only [idsS] at ih;simp only [List.map_cons,idsS,Ajw,Ams,ih]
def key3:List Int->K3
 | [x]=>(x,0,0)
 | [x,y]=>(x,y,0)
 | _=>(0,0,0)
def visF (ids:List Int) (m:List (K3×Bool)) (o:List (List Int)):Bool×List (K3×Bool)×List (List Int):=
 if Ah6 (key3 ids) m false=true then (decide (o.length<=20000),m,o) else (decide (o.length+1<=20000),mset (key3 ids) true m,o++[ids])
def Aj1 (srt:Nat):List D->Ask
 | [.sl rows,.box [.map es],.box [.own os]]=>match Aeg rows,Alq es,Ajw os with
  | some rs,some m,some o=>if (rs.length=1∨rs.length=2)/\o.length<=1000000 then
    .call srt [idsD (rs.map (·.1))] fun x=>match x with
     | (.tup [],[.own l])=>match Ajv l with
      | some ids=>if ids.length=rs.length then .ret (some (.lit (.bool (visF ids m o).1),[.box [Abe (visF ids m o).2.1],.box [outE (visF ids m o).2.2]])) else .ret none
      | none=>.ret none
     | _=>.ret none
   else .ret none
  | _,_,_=>.ret none
 | _=>.ret none
theorem Ba6 {call:Nat->List D->Option (D×List D)} {srt:Nat} {ds:List D} {r:D} {outs:List D} (h:runAsk call (Aj1 srt ds)=some (r,outs)) :
  ∃ (rs:List RowP) (m:List (K3×Bool)) (o:List (List Int)) (ids:List Int),ds=[.sl (rs.map rowD),.box [Abe m],.box [outE o]]/\(rs.length=1∨rs.length=2)/\o.length<=1000000/\ids.length=rs.length /\
   call srt [idsD (rs.map (·.1))]=some (.tup [],[idsD ids])/\r=.lit (.bool (visF ids m o).1)/\outs=[.box [Abe (visF ids m o).2.1],.box [outE (visF ids m o).2.2]]:=by
 unfold Aj1 at h
 split at h
 case h_2=>simp [runAsk] at h
 rename_i rows es os
 split at h
 case h_2=>simp [runAsk] at h
 rename_i rs m o e1 e2 e3
 split at h
 case isFalse=>simp [runAsk] at h
 rename_i hc;simp only [runAsk] at h
 split at h
 case h_2=>cases h
 rename_i x hx
 split at h
 case h_2=>simp [runAsk] at h
 rename_i l
 split at h
 case h_2=>simp [runAsk] at h
 rename_i ids e4
 split at h
 case isFalse=>simp [runAsk] at h
 rename_i hl;simp only [runAsk,zJ,Prod.mk.injEq] at h;refine ⟨rs,m,o,ids,?_,hc.1,hc.2,hl,?_,h.1.symm,h.2.symm⟩
 ·rw [Ahd e1,Auy e2,Aom e3];rfl
 ·rw [hx,Aol e4];rfl
def Azg (call:Nat->List D->Option (D×List D)) (q:VF) (atoms:List (List D)) (rows:List RowP) (s o:D) (z:VRes):Prop:=
 (call q.sat [.sl (rows.map rowD),.sl atoms]=some (.lit (.bool false),[])/\z=(true,s,o)) ∨
 (call q.sat [.sl (rows.map rowD),.sl atoms]=some (.lit (.bool true),[])/\∃ s' o',z.2.1=.box [.map s']/\z.2.2=.box [.own o']/\call q.vis [.sl (rows.map rowD),s,o]=some (.lit (.bool z.1),[.box [.map s'],.box [.own o']]))
def Ahu (call:Nat->List D->Option (D×List D)) (q:VF) (step:List RowP->D->D->VRes->Prop) (rows:List RowP):List RowP->D->D->VRes->Prop
 | [],s,o,z=>z=(true,s,o)
 | r::todo,s,o,z=>(call q.cf [.sl (rows.map rowD),.fn q.cl [.ref (rowD r)]]=some (.lit (.bool true),[])/\Ahu call q step rows todo s o z) ∨
  (call q.cf [.sl (rows.map rowD),.fn q.cl [.ref (rowD r)]]=some (.lit (.bool false),[])/\∃ rs y,call q.cn [.sl (rows.map rowD)]=some (.own (rs.map rowD),[])/\rs.length=rows.length/\step (rs++[r]) s o y/\((y.1=true/\Ahu call q step rows todo y.2.1 y.2.2 z)∨(y.1=false/\z=y)))
def VisR (call:Nat->List D->Option (D×List D)) (q:VF) (atoms:List (List D)) (all:List RowP):Nat->List RowP->D->D->VRes->Prop
 | 0,rows,s,o,z=>Azg call q atoms rows s o z
 | n+1,rows,s,o,z=>Ahu call q (VisR call q atoms all n) rows all s o z
section
variable {call:Nat->List D->Option (D×List D)} {q:VF} {x:D×List D}
theorem Beh {atoms:List (List D)} {rows:List RowP} {s o:D} {k:VRes->Ask} (h:runAsk call (Ap6 q atoms rows s o k)=some x):∃ z,Azg call q atoms rows s o z/\runAsk call (k z)=some x:=by
 unfold Ap6 at h;simp only [runAsk] at h
 split at h
 case h_2=>cases h
 rename_i r hr
 split at h
 ·simp only [runAsk] at h
  split at h
  case h_2=>cases h
  rename_i r2 hr2
  split at h
  ·exact ⟨_,.inr ⟨hr,_,_,rfl,rfl,hr2⟩,h⟩
  ·simp [runAsk] at h
 ·exact ⟨_,.inl ⟨hr,rfl⟩,h⟩
 ·simp [runAsk] at h
theorem Aqo {step:List RowP->D->D->(VRes->Ask)->Ask} {R:List RowP->D->D->VRes->Prop} (hs:∀ rows s o k,runAsk call (step rows s o k)=some x->∃ z,R rows s o z/\runAsk call (k z)=some x) {rows:List RowP}:∀ {todo:List RowP} {s o:D} {k:VRes->Ask},runAsk call (Aki q step rows todo s o k)=some x->∃ z,Ahu call q R rows todo s o z/\runAsk call (k z)=some x
 | [],s,o,k,h=>⟨_,rfl,h⟩
 | r::todo,s,o,k,h=>by
  simp only [Aki,runAsk] at h
  split at h
  case h_2=>cases h
  rename_i y hy
  split at h
  ·obtain ⟨z,h1,h2⟩:=Aqo hs h;exact ⟨z,.inl ⟨hy,h1⟩,h2⟩
  ·simp only [runAsk] at h
   split at h
   case h_2=>cases h
   rename_i y2 hy2
   split at h
   ·split at h
    ·rename_i rs hrs
     split at h
     ·rename_i hle;rw [Ahd hrs] at hy2;obtain ⟨z,h1,h2⟩:=hs _ _ _ _ h;by_cases hz:z.1=true
      ·rw [if_pos hz] at h2;obtain ⟨z',h3,h4⟩:=Aqo hs h2;exact ⟨z',.inr ⟨hy,_,z,hy2,hle,h1,.inl ⟨hz,h3⟩⟩,h4⟩
      ·rw [if_neg hz] at h2;exact ⟨z,.inr ⟨hy,_,z,hy2,hle,h1,.inr ⟨by simpa using hz,rfl⟩⟩,h2⟩
     ·simp [runAsk] at h
    ·simp [runAsk] at h
   ·simp [runAsk] at h
  ·simp [runAsk] at h
theorem Av2 {atoms:List (List D)} {all:List RowP}:∀ {n:Nat} {rows:List RowP} {s o:D} {k:VRes->Ask},runAsk call (Ak4 q atoms all n rows s o k)=some x->∃ z,VisR call q atoms all n rows s o z/\runAsk call (k z)=some x
 | 0,rows,s,o,k,h=>Beh h
 | n+1,rows,s,o,k,h=>Aqo (fun rows s o k h=>Av2 (n:=n) h) h
end
def vioR (l:List (List D)) (e:Int):D:=.tup [.own l,.lit (.int .i64 e)]
def endA (q:VF) (z:VRes):Ask:=if z.1=true then (match z.2.2 with
  | .box [.own es]=>.call q.srt [.own es,.fn q.cmp []] fun x=>match x with
   | (.tup [],[.own es'])=>match Ajw es' with
    | some _=>.ret (some (vioR es' 0,[]))
    | none=>.ret none
   | _=>.ret none
  | _=>.ret none) else .ret (some (vioR [] 3,[]))
def Aj0 (q:VF):List D->Ask
 | [.agg [.lit (.string nm),.sl ats,.sl rows],.agg [.lit (.int .i64 vars),.sl atoms]]=>.call q.chk [.agg [.lit (.string nm),.sl ats,.sl rows],.agg [.lit (.int .i64 vars),.sl atoms]] fun x=>match x with
  | (.lit (.int .i64 e),[])=>if e=0 then (match Aeg rows with
   | some all=>if 1<=vars/\vars<=2/\all.length<=1000000 then Ak4 q atoms all vars.toNat [] (.box [.map []]) (.box [.own []]) (endA q) else .ret none
   | none=>.ret none) else .ret (some (vioR [] e,[]))
  | _=>.ret none
 | _=>.ret none
def EndR (call:Nat->List D->Option (D×List D)) (q:VF) (z:VRes) (r:D):Prop:=
 (z.1=false/\r=vioR [] 3)∨(z.1=true/\∃ (es:List (List D)) (o':List (List Int)),z.2.2=.box [.own es]/\call q.srt [.own es,.fn q.cmp []]=some (.tup [],[outE o'])/\∃ l,outE o'=.own l/\r=vioR l 0)
theorem Ba5 {call:Nat->List D->Option (D×List D)} {q:VF} {ds:List D} {r:D} {outs:List D} (h:runAsk call (Aj0 q ds)=some (r,outs)) :
  ∃ nm ats rows vars atoms e,ds=[.agg [.lit (.string nm),.sl ats,.sl rows],.agg [.lit (.int .i64 vars),.sl atoms]]/\call q.chk ds=some (.lit (.int .i64 e),[])/\outs=[] /\
   ((e≠0/\r=vioR [] e)∨(e=0/\∃ all n z,rows=all.map rowD/\vars=(n:Nat)/\1<=n/\n<=2/\all.length<=1000000/\VisR call q atoms all n [] (.box [.map []]) (.box [.own []]) z/\EndR call q z r)):=by
 unfold Aj0 at h
 split at h
 case h_2=>simp [runAsk] at h
 rename_i nm ats rows vars atoms;simp only [runAsk] at h
 split at h
 case h_2=>cases h
 rename_i x hx
 split at h
 case h_2=>simp [runAsk] at h
 rename_i e;refine ⟨nm,ats,rows,vars,atoms,e,rfl,hx,?_⟩;by_cases he:e=0
 ·rw [if_pos he] at h
  split at h
  case h_2=>simp [runAsk] at h
  rename_i all hall
  split at h
  case isFalse=>simp [runAsk] at h
  rename_i hv;obtain ⟨z,h1,h2⟩:=Av2 h;have key:outs=[]/\EndR call q z r:=by
   unfold endA at h2
   split at h2
   ·rename_i hz
    split at h2
    ·rename_i es hes;simp only [runAsk] at h2
     split at h2
     case h_2=>cases h2
     rename_i y hy
     split at h2
     ·rename_i es'
      split at h2
      ·rename_i o' ho';simp only [runAsk,zJ,Prod.mk.injEq] at h2;rw [Aom ho'] at hy h2;exact ⟨h2.2.symm,.inr ⟨hz,es,o',hes,hy,_,rfl,h2.1.symm⟩⟩
      ·simp [runAsk] at h2
     ·simp [runAsk] at h2
    ·simp [runAsk] at h2
   ·rename_i hz;simp only [runAsk,zJ,Prod.mk.injEq] at h2;exact ⟨h2.2.symm,.inl ⟨by simpa using hz,h2.1.symm⟩⟩
  exact ⟨key.1,.inr ⟨he,all,vars.toNat,z,Ahd hall,by omega,by omega,by omega,hv.2.2,h1,key.2⟩⟩
 ·rw [if_neg he] at h;simp only [runAsk,zJ,Prod.mk.injEq] at h;exact ⟨h.2.symm,.inl ⟨he,h.1.symm⟩⟩
end Go.Own
