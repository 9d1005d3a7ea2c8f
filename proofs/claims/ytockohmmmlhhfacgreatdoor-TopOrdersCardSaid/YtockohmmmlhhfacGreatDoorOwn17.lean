/- An interpreter of function bodies, sound. No conditions. -/
import Derived.Test.YtockohmmmlhhfacGreatDoorOwn14
import Derived.Test.YtockohmmmlhhfacGreatDoorOwn7
set_option linter.all false
namespace Go.Own
open D
section
variable {E:Env} {f:Nat} {V:List Nat} {F:Fr} {Q:Ex->Fr->Prop} {body:Code} {p:List Nat} {j:Nat} {s:St} {d d':D} {cs cs':List D}
theorem Ba8:snaps1 F []=some []:=rfl
theorem Bbw (h:snapD F d=some d') (hn:∀ cs,d≠.agg cs) (hf:∀ g cs,d≠.fn g cs):snap1 F d=some d':=by
 cases d with
 | agg cs=>exact absurd rfl (hn cs)
 | fn g cs=>exact absurd rfl (hf g cs)
 | _=>exact h
def oneC:D->Bool
 | .agg _=>false
 | .fn _ _=>false
 | _=>true
theorem Ay3 (h:snapD F d=some d') (hs:snaps1 F cs=some cs') (ho:oneC d=true:=by rfl):snaps1 F (d::cs)=some (d'::cs'):=by
 have:snap1 F d=some d':=Bbw h (fun cs hc=>by subst hc;cases ho) (fun g cs hc=>by subst hc;cases ho);simp only [snaps1,this,hs]
theorem Bdq {g:Nat} (hs:snaps1 F cs=some cs'):snapD F (.fn g cs)=some (.fn g cs'):=by simp only [snapD,hs,Option.map_some]
theorem Ab9:flatCs []=true:=rfl
theorem Aa8 (h:d.flat=true) (hs:flatCs cs=true):flatCs (d::cs)=true:=by simp only [flatCs,h,hs,Bool.and_self]
theorem Al0 (hs:flatCs cs=true):(D.agg cs).flat=true:=by simp only [D.flat,hs]
theorem Aci (hs:flatCs cs=true):(D.tup cs).flat=true:=by simp only [D.flat,hs]
def bstr (l:List UInt8):ByteArray:=⟨l.toArray⟩
def tz32 (n:Int):Int:=Abq n.toNat 32 0
theorem Agz {g:Nat} {pr:List D->Option (D×List D)} {ds:List D} {r:D} {outs:List D} (h:E.prim g=some pr) (h2:pr ds=some (r,outs)):Ret E g ds r outs:=
 Ret.of (n:=1) (by simp only [Abv,h,h2])
theorem Ba4 {g t e:Nat} {l:List UInt8} {b:ByteArray} (h:E.prim g=some (Ahm t e)) (h2:l.length+b.size<=140737488355328):Ret E g [.bld t e l,.lit (.string b)] (.tup [.lit (.int .i64 b.size),.lit .nilIface]) [.bld t e (l++b.data.toList)]:=
 Agz h (by simp [Ahm,h2])
theorem Axw {g t e:Nat} {l:List UInt8} (h:E.prim g=some (Age t e)):Ret E g [.bld t e l] (.lit (.string (bstr l))) [.box [.undef,.undef]]:=
 Agz h (by simp [Age,bstr])
theorem Ba5 {g:Nat} {n:Int} (h:E.prim g=some Ahn) (h2:0<=n/\n<4294967296):Ret E g [.lit (.int .u32 n)] (.lit (.int .i64 (tz32 n))) []:=
 Agz h (by simp [Ahn,tz32,h2])
theorem Bdp {g:Nat} {a b:ByteArray} (h:E.prim g=some An8):Ret E g [.lit (.string a),.lit (.string b)] (.lit (.int .i64 (bcmp a b))) []:=
 Agz h rfl
end
end Go.Own
namespace Go.Own
open D
theorem Ai6:freezeCs []=some []:=rfl
theorem Ach {c c':D} {cs cs':List D} (h:c.freeze=some c') (hs:freezeCs cs=some cs'):freezeCs (c::cs)=some (c'::cs'):=by simp only [freezeCs,h,hs]
theorem Bbx {F:Fr} {s:Nat} {ps:Path} {cs cs':List D} (hg:getAt F s ps=some (.box cs)) (h:freezeCs cs=some cs'):snapD F (.alias s ps)=some (.ref cs'):=by
 simp only [snapD,snap1,freezeAt,hg,D.freeze,h,Option.map_some]
end Go.Own
namespace Go.Own
open D
def Ahk (s:Nat):D->Bool
 | alias s' p=>s' == s&&!p.isEmpty
 | sub s' p _ _=>s' == s&&!p.isEmpty
 | place s' p _ _=>s' == s&&!p.isEmpty
 | _=>false
def Aub (s:Nat):D->Bool
 | agg cs=>cs.any (Ahk s)
 | fn _ cs=>cs.any (Ahk s)
 | d=>Ahk s d
def Afa (F:Fr) (s:Nat):Bool:=F.all fun x=>!Aub s x.2
theorem Ahy {s:Nat} {q:Path} (hq:q≠[]):∀ {d:D},Ahk s d=false->kill1 (deadIn s q) d=d:=by
 have hp:∀ p:Path,p.isEmpty=true->D.pre q p=false:=fun p h=>by
  cases p with
  | nil=>cases q with
   | nil=>exact absurd rfl hq
   | cons _ _=>rfl
  | cons _ _=>cases h
 intro d h;cases d with
 | alias s' p=>
  simp only [Ahk,Bool.and_eq_false_iff,Bool.not_eq_false'] at h;simp only [kill1,deadIn];rcases h with h | h
  ·simp [h]
  ·simp [hp p h]
 | sub s' p a b=>
  simp only [Ahk,Bool.and_eq_false_iff,Bool.not_eq_false'] at h;simp only [kill1,deadIn];rcases h with h | h
  ·simp [h]
  ·simp [hp p h]
 | place s' p a b=>
  simp only [Ahk,Bool.and_eq_false_iff,Bool.not_eq_false'] at h;simp only [kill1,deadIn];rcases h with h | h
  ·simp [h]
  ·simp [hp p h]
 | _=>rfl
theorem Aju {s:Nat} {q:Path} (hq:q≠[]):∀ {cs:List D},cs.any (Ahk s)=false->cs.map (kill1 (deadIn s q))=cs
 | [],_=>rfl
 | c::cs,h=>by
  simp only [List.any_cons,Bool.or_eq_false_iff] at h;simp only [List.map_cons,Ahy hq h.1,Aju hq h.2]
theorem Apr {s:Nat} {q:Path} (hq:q≠[]):∀ {F:Fr},Afa F s=true->killB F s q=F
 | [],_=>rfl
 | (k,d)::F,h=>by
  simp only [Afa,List.all_cons,Bool.and_eq_true,Bool.not_eq_true'] at h;have ih:=Apr hq (F:=F) h.2;simp only [killB,killF,List.map_cons] at ih ⊢;rw [ih];have:kill2 (deadIn s q) d=d:=by
   have h1:=h.1;cases d with
   | agg cs=>simp only [Aub] at h1;simp only [kill2,Aju hq h1]
   | fn g cs=>simp only [Aub] at h1;simp only [kill2,Aju hq h1]
   | alias a b=>exact Ahy (d:=alias a b) hq h1
   | sub a b c d=>exact Ahy (d:=sub a b c d) hq h1
   | place a b c d=>exact Ahy (d:=place a b c d) hq h1
   | _=>rfl
  rw [this]
theorem Au1 {F:Fr} {s:Nat} {d:D}:get (put0 F s d) s=d:=by
 induction F with
 | nil=>simp [put0,get]
 | cons x F ih=>
  obtain ⟨k,e⟩:=x;simp only [put0]
  split
  ·simp [get]
  ·rename_i h;simp only [get,if_neg h];exact ih
theorem Ba2 {F:Fr} {s:Nat} {d d':D}:put0 (put0 F s d) s d'=put0 F s d':=by
 induction F with
 | nil=>simp [put0]
 | cons x F ih=>
  obtain ⟨k,e⟩:=x;simp only [put0]
  split
  ·simp [put0]
  ·rename_i h;simp only [put0,if_neg h,ih]
theorem Avq {F:Fr} {s:Nat} {es:List (List D)} (h:Afa F s=true):Afa (put0 F s (own es)) s=true:=by
 induction F with
 | nil=>rfl
 | cons x F ih=>
  obtain ⟨k,e⟩:=x;simp only [Afa,List.all_cons,Bool.and_eq_true] at h;simp only [put0]
  split
  ·simp only [Afa,List.all_cons,Bool.and_eq_true];exact ⟨rfl,h.2⟩
  ·simp only [Afa,List.all_cons,Bool.and_eq_true];exact ⟨h.1,ih h.2⟩
section
variable {α:Type} {e e':Enc α} {l:List α} {F:Fr} {s:Nat}
theorem Arl {l:List (List α)} (hg:get F s=.own (l.map (eOw e))) (hf:Fzn e id e') (hn:Afa F s=true):∀ n,n<=l.length->chillS F s 0 n=put0 F s (.own ((l.take n).map (eSl e')++(l.drop n).map (eOw e)))
 | 0,_=>by
  simp only [chillS,List.take_zero,List.map_nil,List.nil_append,List.drop_zero];rw [← hg];have:∀ F:Fr,(∃ d,get F s=d/\d≠.undef)->put0 F s (get F s)=F:=by
   intro F
   induction F with
   | nil=>rintro ⟨d,h,h2⟩;exact absurd h.symm h2
   | cons x F ih=>
    obtain ⟨k,e⟩:=x;rintro ⟨d,h,h2⟩;simp only [get] at h ⊢;simp only [put0]
    split
    ·rename_i hk;subst hk;rfl
    ·rename_i hk;rw [if_neg hk] at h;rw [ih ⟨d,h,h2⟩]
  exact (this F ⟨_,hg,by simp⟩).symm
 | n+1,hn1=>by
  have ih:=Arl hg hf hn n (by omega);simp only [chillS,ih];have hd:l.drop n=l[n]::l.drop (n+1):=List.drop_eq_getElem_cons (by omega);have hlen:((l.take n).map (eSl e')).length=n:=by simp;omega
  have hat:((l.take n).map (eSl e')++(l.drop n).map (eOw e))[n]? = some [.own (l[n].map e)]:=by
   rw [List.getElem?_append_right (by omega),hlen,Nat.sub_self,hd];rfl
  have h1:getAt (put0 F s (.own ((l.take n).map (eSl e')++(l.drop n).map (eOw e)))) s [(n,0)]=some (.own (l[n].map e)):=by
   simp only [getAt,Au1,D.getP,D.elem,hat];rfl
  have hset:((l.take n).map (eSl e')++(l.drop n).map (eOw e)).set n [.sl (l[n].map e')]=(l.take (n+1)).map (eSl e')++(l.drop (n+1)).map (eOw e):=by
   rw [List.set_append_right _ _ (by omega),hlen,Nat.sub_self,hd,List.map_cons,List.set_cons_zero,List.take_add_one,List.getElem?_eq_getElem (by omega),Option.toList_some,List.map_append,List.append_assoc];rfl
  have h2:setAt (put0 F s (.own ((l.take n).map (eSl e')++(l.drop n).map (eOw e)))) s [(n,0)] (.sl (l[n].map e'))=some (put0 F s (.own ((l.take (n+1)).map (eSl e')++(l.drop (n+1)).map (eOw e)))):=by
   simp only [setAt,Au1,D.setP,D.elem,hat,List.getElem?_cons_zero,D.setElem,List.set_cons_zero,Option.map_some,Ba2,hset]
  simp only [frzAt,h1,D.ex1,if_true,Ac0 hf,h2,Option.map_some];exact Apr (by simp) (Avq hn)
theorem Ayz {l:List (List α)} (hg:get F s=.own (l.map (eOw e))) (hf:Fzn e id e') (hn:Afa F s=true):Alv F s 0=put0 F s (.own (l.map (eSl e'))):=by
 unfold Alv;rw [hg];simp only [Nat.reduceEqDiff,if_false];rw [Arl hg hf hn _ (by simp)];simp
theorem Ay9 {E:Env} {f k i:Nat} {V:List Nat} {F0 F':Fr} {l:List (List α)} (h0:trim0 E f V k i F=F0) (hc:E.chill f k i=[(s,0)]) (hg:get F0 s=.own (l.map (eOw e))) (hf:Fzn e id e') (hn:Afa F0 s=true) (h2:put0 F0 s (.own (l.map (eSl e')))=F'):trim E f V k i F=F':=by
 unfold trim;rw [hc,h0];simp only [chillAll];rw [Ayz hg hf hn,h2]
def sown (es:List (List D)) (b:Bool):D:=if b || !es.isEmpty then .own es else .sl []
theorem Az2 {b c:Bool} (hb:b=true) (h:Fzn e id e):coldD b (sown (l.map e) c)=some (.sl (l.map e)):=by
 subst hb;unfold sown
 split
 ·exact Ac0 h l
 ·rename_i hc;cases l with
  | nil=>rfl
  | cons a l=>exact absurd (by simp) hc
theorem Bbc {α:Type} {c:Prop} [Decidable c] {a:α} {x:Option α} (h:x=some a):(if c then some a else x)=some a:=by split<;>simp_all
end
end Go.Own
namespace Go.Own
open D
section
variable {E:Env} {f:Nat} {V:List Nat} {F:Fr} {o:Oper} {call:Aav} {α:Type} {e:Enc α} {l m:List α} {t et k s n off len:Nat} {ps:Path} {x:Operand} {z:D}
def clr (e:Enc α) (l:List α) (off len:Nat) (z:D):List (List D):=(l.map e).take off++List.replicate len z.cells++(l.map e).drop (off+len)
theorem Awa (h:off+len<=l.length):(clr e l off len z).length=l.length:=by simp [clr];omega
theorem Bb1 (h:off+len<=l.length) (hn:n<=off):(clr e l off len z).take n=(l.take n).map e:=by
 unfold clr;rw [List.append_assoc,List.take_append_of_le_length (by simp;omega),List.take_take,Nat.min_eq_left hn,List.map_take]
theorem Bbp (ho:o.op=.call { callee:=.builtin .clear,args:=#[x],argTypes:=#[t] }) (hx:opd E F x=some (.sub s ps off len)) (hg:getAt F s ps=some (.own (l.map e))) (ht:sliceT E.P t=some et) (hz:zeroT E.P et=some z) (hzl:z.cells.length=k) (hs:sizeT E.P et=k) (hp:Nat.blt 0 k=true) (hk:∀ x,(e x).length=k) (hl:off+len<=l.length)
  (hset:(setAt F s ps (.own (clr e l off len z))).isSome=true):opC E f V call F o=some (fin (killB (setG F s ps (.own (clr e l off len z))) s ps) o.dst (.tup [])):=by
 have hp:0<k:=Ag0 hp;have h3:((l.map e).all fun c=>c.length == k)=true:=by simp [List.all_eq_true,hk]
 unfold opC;have hs':=Ana hset;unfold clr at hs';simp only [ho,builtinC,hx,ht,hg,hz,hzl,hs,List.length_map];rw [if_pos ⟨hl,trivial,hp,h3⟩,hs'];rfl
theorem At0 {hi:Option Operand} {hi':Nat} (ho:o.op=.slice t x none hi none) (hx:opd E F x=some (.alias s ps)) (hg:getAt F s ps=some (.own (clr e l off len z))) (h2:optNat E F hi=some (some hi')) (ht:sliceT E.P t=some et) (hs:sizeT E.P et=k) (hk:∀ x,(e x).length=k) (hzl:z.cells.length=k) (hp:Nat.blt 0 k=true) (hl:off+len<=l.length) (h4:hi'<=l.length) :
  valC E f call F o=some (.sub s ps 0 hi'):=by
 have hp:0<k:=Ag0 hp;have hw:wide k (clr e l off len z)=true:=by
  have hall:∀ c∈clr e l off len z,c.length=k:=by
   intro c hc;simp only [clr,List.mem_append] at hc;rcases hc with (hc | hc) | hc
   ·obtain ⟨a,_,rfl⟩:=List.mem_map.1 (List.mem_of_mem_take hc);exact hk a
   ·rw [(List.mem_replicate.1 hc).2];exact hzl
   ·obtain ⟨a,_,rfl⟩:=List.mem_map.1 (List.mem_of_mem_drop hc);exact hk a
  cases hc:clr e l off len z with
  | nil=>rfl
  | cons a r=>have:=hall a (by rw [hc];simp);simp [wide,this]
 unfold valC;have hlen:=Awa (e:=e) (z:=z) hl;simp only [ho,hx,h2,Acu,sliceD,ht,elemsOf,hg,hlen,hs,hw];simp [h4,hp]
theorem Azq {fd:Func} {N:Nat} {es:List (List D)} (hr:fd.results.toList=[.tmp t]) (ht:get F t=.sub s [] 0 n) (hg:getAt F s []=some (.own es)) (hn:n<=es.length) (hm:es.take n=m.map e) (hl:Abn E f 0 N=[]):Af7 E f fd N F=some (sown (m.map e) (!m.isEmpty),[]):=by
 have hml:m.length=n:=by
  have:=congrArg List.length hm;simp at this;omega
 unfold Af7;simp only [hr,Aer,resC,takeOp,ht,takeSlot,takeSub,hg];by_cases h0:n=0
 ·subst h0;have:m=[]:=List.length_eq_zero_iff.1 hml;subst this;simp [hl,Aq5,sown]
 ·have hset:(setAt F s [] D.undef)=some (put0 F s D.undef):=by simp [setAt,D.setP]
  rw [if_neg h0];have hmn:m≠[]:=fun h=>h0 (by rw [← hml,h];rfl);have:sown (m.map e) (!m.isEmpty)=.own (m.map e):=by
   cases m with
   | nil=>exact absurd rfl hmn
   | cons a r=>rfl
  simp [hn,hset,hl,Aq5,this,hm]
end
end Go.Own
namespace Go.Own
open D
def Aks (l:List Int):ByteArray:=⟨(l.map fun x=>UInt8.ofNat x.toNat).toArray⟩
theorem Avf {l:List Int} (h:∀ x∈l,0<=x/\x<256):bytesOfD (l.map (eI .u8))=some (l.map fun x=>UInt8.ofNat x.toNat):=by
 induction l with
 | nil=>rfl
 | cons a l ih=>
  have ha:=h a (by simp);simp only [List.map_cons,bytesOfD,ih fun x hx=>h x (by simp [hx])];simp [eI,byteOfD,ha]
theorem Amn {E:Env} {f:Nat} {F:Fr} {o:Oper} {call:Aav} {s t et:Nat} {x:Operand} {d:D} {l:List Int} (ho:o.op=.convert s t x) (hx:opd E F x=some d) (hd:elemsOf F d=some (l.map (eI .u8))) (hs:E.P.underlying s=some (.slice et)) (he:E.P.underlying et=some (.int .u8)) (ht:E.P.underlying t=some .string) (h:∀ x∈l,0<=x/\x<256) :
  valC E f call F o=some (.lit (.string (Aks l))):=by
 unfold valC;simp only [ho,hx,convertD,hs,ht];cases d with
 | lit v=>simp [elemsOf] at hd
 | _=>simp only [he,hd,Avf h,Option.map_some,Aks]
end Go.Own
namespace Go.Own
theorem ne_eq {E:Env} {F F':Fr} {y:Operand} {a:List (List D)} (h:newElems E F y=some (a,F')):newElems E F y=some (a,newF E F y):=by
 unfold newF;rw [h]
end Go.Own
namespace Go.Own
open D
def Afu (s:Nat):D->Bool
 | alias s' p=>s' == s&&!p.isEmpty
 | sub s' _ _ _=>s' == s
 | place s' _ _ _=>s' == s
 | _=>false
def Auc (s:Nat):D->Bool
 | agg cs=>cs.any (Afu s)
 | fn _ cs=>cs.any (Afu s)
 | d=>Afu s d
def Ar3 (F:Fr) (s:Nat):Bool:=F.all fun x=>!Auc s x.2
theorem Aps {s:Nat}:∀ {d:D},Afu s d=false->kill1 (deadIn s []) d=d:=by
 intro d h;cases d with
 | alias s' p=>
  simp only [Afu,Bool.and_eq_false_iff,Bool.not_eq_false'] at h;simp only [kill1,deadIn];rcases h with h | h
  ·simp [h]
  ·cases p with
   | nil=>simp
   | cons _ _=>cases h
 | sub s' p a b=>simp only [Afu] at h;simp [kill1,deadIn,h]
 | place s' p a b=>simp only [Afu] at h;simp [kill1,deadIn,h]
 | _=>rfl
theorem Aua {s:Nat}:∀ {cs:List D},cs.any (Afu s)=false->cs.map (kill1 (deadIn s []))=cs
 | [],_=>rfl
 | c::cs,h=>by
  simp only [List.any_cons,Bool.or_eq_false_iff] at h;simp only [List.map_cons,Aps h.1,Aua h.2]
theorem Azo {s:Nat}:∀ {F:Fr},Ar3 F s=true->killB F s []=F
 | [],_=>rfl
 | (k,d)::F,h=>by
  simp only [Ar3,List.all_cons,Bool.and_eq_true,Bool.not_eq_true'] at h;have ih:=Azo (F:=F) h.2;simp only [killB,killF,List.map_cons] at ih ⊢;rw [ih];have:kill2 (deadIn s []) d=d:=by
   have h1:=h.1;cases d with
   | agg cs=>simp only [Auc] at h1;simp only [kill2,Aua h1]
   | fn g cs=>simp only [Auc] at h1;simp only [kill2,Aua h1]
   | alias a b=>exact Aps (d:=alias a b) h1
   | sub a b c d=>exact Aps (d:=sub a b c d) h1
   | place a b c d=>exact Aps (d:=place a b c d) h1
   | _=>rfl
  rw [this]
theorem Aw3 {E:Env} {f k i s:Nat} {V:List Nat} {F F0 F':Fr} {α:Type} {e e':Enc α} {l:List α} (h0:trim0 E f V k i F=F0) (hc:E.chill f k i=[(s,1000)]) (hg:get F0 s=.own (l.map e)) (hf:Fzn e id e') (h2:put0 F0 s (.sl (l.map e'))=F') (hn:Ar3 F' s=true):trim E f V k i F=F':=by
 unfold trim;rw [hc,h0];simp only [chillAll,Alv,hg,if_true];have h1:getAt F0 s []=some (.own (l.map e)):=by simp [getAt,D.getP,hg]
 have h3:setAt F0 s [] (.sl (l.map e'))=some F':=by simp [setAt,D.setP,h2]
 simp only [frzAt,h1,D.ex1,if_true,Ac0 hf,h3,Option.map_some,Option.getD_some];exact Azo hn
end Go.Own
namespace Go.Own
open D
theorem Apf {cs cs':List D} (h:freezeCs cs=some cs'):(D.agg cs).freeze=some (.agg cs'):=by simp only [D.freeze,h,Option.map_some]
theorem Bb2 {b:Bool} {cs cs':List D} (hb:b=true) (h:freezeCs cs=some cs'):coldD b (.agg cs)=some (.agg cs'):=by subst hb;exact Apf h
theorem Atp {b:Bool} {cs cs':List D} (hb:b=true) (h:freezeCs cs=some cs'):coldD b (.tup cs)=some (.tup cs'):=by
 subst hb;simp only [coldD,if_true,h,Option.map_some]
end Go.Own
namespace Go.Own
open D
def eqT (E:Env) (t:Nat) (xs ys:List D):Option Bool:=match E.P.underlying t with
 | some (.struct fs)=>if E.P.stoodInHeld t || E.P.eqGuardType E.P.depth t then none else eqFieldsD E.P xs ys fs.toList
 | _=>none
def eqs:List Bool->Option Bool
 | []=>some true
 | b::bs=>if b then eqs bs else some false
theorem Awf:∀ l:List Bool,eqs l=some (l.all id)
 | []=>rfl
 | true::l=>by simp [eqs,Awf l]
 | false::l=>by simp [eqs]
theorem Bcp {E:Env} {t:Nat} {xs ys:List D} {b:Bool} (h:eqT E t xs ys=some b):binD E .eql t (.agg xs) (.agg ys)=some (.lit (.bool b))/\binD E .neq t (.agg xs) (.agg ys)=some (.lit (.bool !b)):=by
 unfold eqT at h;unfold binD
 split at h
 ·rename_i fs hu
  split at h
  ·cases h
  ·rename_i hg;simp only [hu,hg,h];exact ⟨rfl,rfl⟩
 ·cases h
theorem Bch {E:Env} {t:Nat} {xs ys:List D} {l:List Bool} (K:eqT E t xs ys=eqs l:=by kernel_rfl):binD E .eql t (.agg xs) (.agg ys)=some (.lit (.bool (l.all id))):=(Bcp (K.trans (Awf l))).1
end Go.Own
namespace Go.Own
open D
def Apm:List D->Bool
 | [D.lit (.int .i64 _)]=>true
 | _=>false
def Ahb (v b:Nat):List D->Option (D×List D)
 | [D.fn g [D.ref [D.sl es]]]=>if g=v/\es.all Apm=true/\es.length*b<=140737488351232 then some (D.own es,[]) else none
 | _=>none
def Ai1 (v:Nat):List D->Option (D×List D)
 | [D.sl es]=>some (D.fn v [D.ref [D.sl es]],[])
 | _=>none
theorem Axx {E:Env} {g v:Nat} {es:List (List D)} (h:E.prim g=some (Ai1 v)):Ret E g [.sl es] (.fn v [.ref [.sl es]]) []:=Agz h rfl
theorem Avu {E:Env} {g v b:Nat} {α:Type} {e:Enc α} {l:List α} (h:E.prim g=some (Ahb v b)) (hk:∀ x,Apm (e x)=true) (hl:l.length*b<=140737488351232):Ret E g [.fn v [.ref [.sl (l.map e)]]] (.own (l.map e)) []:=
 Agz h (by
  show (if v=v/\(l.map e).all Apm=true/\(l.map e).length*b<=140737488351232 then some (D.own (l.map e),([]:List D)) else none)=_;rw [if_pos ⟨rfl,List.all_eq_true.2 fun x hx=>by
   obtain ⟨a,_,rfl⟩:=List.mem_map.1 hx
   exact hk a,by rw [List.length_map];exact hl⟩])
end Go.Own
