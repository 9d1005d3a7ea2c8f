/- An interpreter of function bodies, sound. No conditions. -/
import Derived.Test.YtmiedlcblpiemaaGreatDoorOwn14
import Derived.Test.YtmiedlcblpiemaaGreatDoorOwn7
set_option linter.all false
open Option renaming map_some->zA
open Bool renaming and_eq_false_iff->zB,and_eq_true->zC,not_eq_false'->zE,or_eq_false_iff->zG,not_eq_true'->zK
open List renaming map_cons->zD,all_cons->zF,mem_map->zH,set_cons_zero->zI,append_assoc->zL,length_map->zM
namespace Go.Own
open D
section
variable{E:Env}{f:Nat}{V:List Nat}{F:Fr}{Q:Ex->Fr->Prop}{body:Code}{p:List Nat}{j:Nat}{s:St}{d d':D}{cs cs':List D}
theorem Aem:snaps1 F []=some []:=rfl
theorem Bgr(h:snapD F d=some d')(hn:∀cs,d≠.agg cs)(hf:∀g cs,d≠.fn g cs):snap1 F d=some d':=by
 cases d with
 |agg cs=>exact absurd rfl (hn cs)
 |fn g cs=>exact absurd rfl (hf g cs)
 |_=>exact h
def oneC:D->Bool
 | .agg _=>false
 | .fn _ _=>false
 |_=>true
theorem Aax(h:snapD F d=some d')(hs:snaps1 F cs=some cs')(ho:oneC d=true:=by rfl):snaps1 F (d::cs)=some (d'::cs'):=by
 have:snap1 F d=some d':=Bgr h (fun cs hc=>by subst hc;cases ho) (fun g cs hc=>by subst hc;cases ho);simp only[snaps1,this,hs]
theorem Agu(hs:snaps1 F cs=some cs'):snapD F (.agg cs)=some (.agg cs'):=by simp only[snapD,hs,zA]
theorem Bjx{g:Nat}(hs:snaps1 F cs=some cs'):snapD F (.fn g cs)=some (.fn g cs'):=by simp only[snapD,hs,zA]
theorem Aa9:flatCs []=true:=rfl
theorem Aa3(h:d.flat=true)(hs:flatCs cs=true):flatCs (d::cs)=true:=by simp only[flatCs,h,hs,Bool.and_self]
theorem Acy(hs:flatCs cs=true):(D.agg cs).flat=true:=by simp only[D.flat,hs]
theorem Ab1(hs:flatCs cs=true):(D.tup cs).flat=true:=by simp only[D.flat,hs]
def bstr(l:List UInt8):ByteArray:=⟨l.toArray⟩
def tz32(n:Int):Int:=Aci n.toNat 32 0
theorem An7{g:Nat}{pr:List D->Option (D×List D)}{ds:List D}{r:D}{outs:List D}(h:E.prim g=some pr)(h2:pr ds=some (r,outs)):Ret E g ds r outs:=
 Ret.of (n:=1) (by simp only[Abt,h,h2])
theorem Bek{g t e:Nat}{l:List UInt8}{b:ByteArray}(h:E.prim g=some (Aj2 t e))(h2:l.length+b.size<=140737488355328):Ret E g [.bld t e l,.lit (.string b)] (.tup [.lit (.int .i64 b.size),.lit .nilIface]) [.bld t e (l++b.data.toList)]:=
 An7 h (by simp[Aj2,h2])
theorem Bcd{g t e:Nat}{l:List UInt8}(h:E.prim g=some (Ahr t e)):Ret E g [.bld t e l] (.lit (.string (bstr l))) [.box [.undef,.undef]]:=
 An7 h (by simp[Ahr,bstr])
theorem Bel{g:Nat}{n:Int}(h:E.prim g=some Aj3)(h2:0<=n/\n<4294967296):Ret E g [.lit (.int .u32 n)] (.lit (.int .i64 (tz32 n))) []:=
 An7 h (by simp[Aj3,tz32,h2])
theorem Aoq{g k b:Nat}{α:Type}{e:Enc α}{l:List α}(h:E.prim g=some (Afr k b))(hk:∀x,(e x).length=k)(hl:l.length*b<=140737488355328):Ret E g [.sl (l.map e)] (.own (l.map e)) []:=
 An7 h (by
  show(if(∀x∈l.map e,x.length=k)/\(l.map e).length*b<=140737488355328 then some (D.own (l.map e),([]:List D))else none)=_
  rw[if_pos ⟨fun x hx=>by obtain⟨a,_,rfl⟩:=zH.1 hx;exact hk a,by rw[zM];exact hl⟩])
end
end Go.Own
namespace Go.Own
open D
theorem Adg:freezeCs []=some []:=rfl
theorem Aat{c c':D}{cs cs':List D}(h:c.freeze=some c')(hs:freezeCs cs=some cs'):freezeCs (c::cs)=some (c'::cs'):=by simp only[freezeCs,h,hs]
theorem Bgs{F:Fr}{s:Nat}{ps:Path}{cs cs':List D}(hg:getAt F s ps=some (.box cs))(h:freezeCs cs=some cs'):snapD F (.alias s ps)=some (.ref cs'):=by
 simp only[snapD,snap1,freezeAt,hg,D.freeze,h,zA]
end Go.Own
namespace Go.Own
open D
def Aj0(s:Nat):D->Bool
 |alias s' p=>s' == s&&!p.isEmpty
 |sub s' p _ _=>s' == s&&!p.isEmpty
 |place s' p _ _=>s' == s&&!p.isEmpty
 |_=>false
def Aye(s:Nat):D->Bool
 |agg cs=>cs.any (Aj0 s)
 |fn _ cs=>cs.any (Aj0 s)
 |d=>Aj0 s d
def Agf(F:Fr)(s:Nat):Bool:=F.all fun x=>!Aye s x.2
theorem Ajh{s:Nat}{q:Path}(hq:q≠[]):∀{d:D},Aj0 s d=false->kill1 (deadIn s q) d=d:=by
 have hp:∀p:Path,p.isEmpty=true->D.pre q p=false:=fun p h=>by
  cases p with
  |nil=>cases q with
   |nil=>exact absurd rfl hq
   |cons _ _=>rfl
  |cons _ _=>cases h
 intro d h;cases d with
 |alias s' p=>
  simp only[Aj0,zB,zE]at h;simp only[kill1,deadIn];rcases h with h|h
  .simp [h]
  .simp [hp p h]
 |sub s' p a b=>
  simp only[Aj0,zB,zE]at h;simp only[kill1,deadIn];rcases h with h|h
  .simp [h]
  .simp [hp p h]
 |place s' p a b=>
  simp only[Aj0,zB,zE]at h;simp only[kill1,deadIn];rcases h with h|h
  .simp [h]
  .simp [hp p h]
 |_=>rfl
theorem Alh{s:Nat}{q:Path}(hq:q≠[]):∀{cs:List D},cs.any (Aj0 s)=false->cs.map (kill1 (deadIn s q))=cs
 |[],_=>rfl
 |c::cs,h=>by
  simp only[List.any_cons,zG]at h;simp only[zD,Ajh hq h.1,Alh hq h.2]
theorem Asd{s:Nat}{q:Path}(hq:q≠[]):∀{F:Fr},Agf F s=true->killB F s q=F
 |[],_=>rfl
 |(k,d)::F,h=>by
  simp only[Agf,zF,zC,zK]at h;have ih:=Asd hq (F:=F) h.2;simp only[killB,killF,zD]at ih⊢;rw[ih];have:kill2 (deadIn s q) d=d:=by
   have h1:=h.1;cases d with
   |agg cs=>simp only[Aye]at h1;simp only[kill2,Alh hq h1]
   |fn g cs=>simp only[Aye]at h1;simp only[kill2,Alh hq h1]
   |alias a b=>exact Ajh (d:=alias a b) hq h1
   |sub a b c d=>exact Ajh (d:=sub a b c d) hq h1
   |place a b c d=>exact Ajh (d:=place a b c d) hq h1
   |_=>rfl
  rw[this]
theorem Ay1{F:Fr}{s:Nat}{d:D}:get (put0 F s d) s=d:=by
 induction F with
 |nil=>simp[put0,get]
 |cons x F ih=>
  obtain⟨k,e⟩:=x;simp only[put0]
  split
  .simp [get]
  .rename_i h;simp only[get,if_neg h];exact ih
theorem Bef{F:Fr}{s:Nat}{d d':D}:put0 (put0 F s d) s d'=put0 F s d':=by
 induction F with
 |nil=>simp[put0]
 |cons x F ih=>
  obtain⟨k,e⟩:=x;simp only[put0]
  split
  .simp [put0]
  .rename_i h;simp only[put0,if_neg h,ih]
theorem Azv{F:Fr}{s:Nat}{es:List (List D)}(h:Agf F s=true):Agf (put0 F s (own es)) s=true:=by
 induction F with
 |nil=>rfl
 |cons x F ih=>
  obtain⟨k,e⟩:=x;simp only[Agf,zF,zC]at h;simp only[put0]
  split
  .simp only[Agf,zF,zC];exact⟨rfl,h.2⟩
  .simp only[Agf,zF,zC];exact⟨h.1,ih h.2⟩
section
variable{α:Type}{e e':Enc α}{l:List α}{F:Fr}{s:Nat}
theorem Aus{l:List (List α)}(hg:get F s=.own (l.map (eOw e)))(hf:Fzn e id e')(hn:Agf F s=true):∀n,n<=l.length->chillS F s 0 n=put0 F s (.own ((l.take n).map (eSl e')++(l.drop n).map (eOw e)))
 |0,_=>by
  simp only[chillS,List.take_zero,List.map_nil,List.nil_append,List.drop_zero];rw[<-hg];have:∀F:Fr,(∃d,get F s=d/\d≠.undef)->put0 F s (get F s)=F:=by
   intro F
   induction F with
   |nil=>rintro⟨d,h,h2⟩;exact absurd h.symm h2
   |cons x F ih=>
    obtain⟨k,e⟩:=x;rintro⟨d,h,h2⟩;simp only[get]at h⊢;simp only[put0]
    split
    .rename_i hk;subst hk;rfl
    .rename_i hk;rw[if_neg hk]at h;rw[ih ⟨d,h,h2⟩]
  exact(this F ⟨_,hg,by simp⟩).symm
 |n+1,hn1=>by
  have ih:=Aus hg hf hn n (by omega);simp only[chillS,ih];have hd:l.drop n=l[n]::l.drop (n+1):=List.drop_eq_getElem_cons (by omega);have hlen:((l.take n).map (eSl e')).length=n:=by simp;omega
  have hat:((l.take n).map (eSl e')++(l.drop n).map (eOw e))[n]?=some [.own (l[n].map e)]:=by
   rw[List.getElem?_append_right (by omega),hlen,Nat.sub_self,hd];rfl
  have h1:getAt (put0 F s (.own ((l.take n).map (eSl e')++(l.drop n).map (eOw e)))) s [(n,0)]=some (.own (l[n].map e)):=by
   simp only[getAt,Ay1,D.getP,D.elem,hat];rfl
  have hset:((l.take n).map (eSl e')++(l.drop n).map (eOw e)).set n [.sl (l[n].map e')]=(l.take (n+1)).map (eSl e')++(l.drop (n+1)).map (eOw e):=by
   rw[List.set_append_right _ _ (by omega),hlen,Nat.sub_self,hd,zD,zI,List.take_add_one,List.getElem?_eq_getElem (by omega),Option.toList_some,List.map_append,zL];rfl
  have h2:setAt (put0 F s (.own ((l.take n).map (eSl e')++(l.drop n).map (eOw e)))) s [(n,0)] (.sl (l[n].map e'))=some (put0 F s (.own ((l.take (n+1)).map (eSl e')++(l.drop (n+1)).map (eOw e)))):=by
   simp only[setAt,Ay1,D.setP,D.elem,hat,List.getElem?_cons_zero,D.setElem,zI,zA,Bef,hset]
  simp only[frzAt,h1,D.ex1,if_true,Abi hf,h2,zA];exact Asd (by simp) (Azv hn)
theorem Bda{l:List (List α)}(hg:get F s=.own (l.map (eOw e)))(hf:Fzn e id e')(hn:Agf F s=true):Any F s 0=put0 F s (.own (l.map (eSl e'))):=by
 unfold Any;rw[hg];simp only[Nat.reduceEqDiff,if_false];rw[Aus hg hf hn _ (by simp)];simp
theorem Bco{E:Env}{f k i:Nat}{V:List Nat}{F0 F':Fr}{l:List (List α)}(h0:trim0 E f V k i F=F0)(hc:E.chill f k i=[(s,0)])(hg:get F0 s=.own (l.map (eOw e)))(hf:Fzn e id e')(hn:Agf F0 s=true)(h2:put0 F0 s (.own (l.map (eSl e')))=F'):trim E f V k i F=F':=by
 unfold trim;rw[hc,h0];simp only[chillAll];rw[Bda hg hf hn,h2]
def sown(es:List (List D))(b:Bool):D:=if b || !es.isEmpty then .own es else .sl []
theorem Auy{b c:Bool}(hb:b=true)(h:Fzn e id e):coldD b (sown (l.map e) c)=some (.sl (l.map e)):=by
 subst hb;unfold sown
 split
 .exact Abi h l
 .rename_i hc;cases l with
  |nil=>rfl
  |cons a l=>exact absurd (by simp) hc
theorem Bdn{c:Bool}(h:Flt e):(sown (l.map e) c).flatR=true:=by
 unfold sown
 split
 .exact flatR_of (Aa8 h)
 .rfl
theorem Bfy{α:Type}{c:Prop}[Decidable c]{a:α}{x:Option α}(h:x=some a):(if c then some a else x)=some a:=by split<;>simp_all
end
end Go.Own
namespace Go.Own
open D
section
variable{E:Env}{f:Nat}{V:List Nat}{F:Fr}{o:Oper}{call:Aaq}{α:Type}{e:Enc α}{l m:List α}{t et k s n off len:Nat}{ps:Path}{x:Operand}{z:D}
def clr(e:Enc α)(l:List α)(off len:Nat)(z:D):List (List D):=(l.map e).take off++List.replicate len z.cells++(l.map e).drop (off+len)
theorem Atm(h:off+len<=l.length):(clr e l off len z).length=l.length:=by simp[clr];omega
theorem Axi(h:off+len<=l.length)(hn:n<=off):(clr e l off len z).take n=(l.take n).map e:=by
 unfold clr;rw[zL,List.take_append_of_le_length (by simp;omega),List.take_take,Nat.min_eq_left hn,List.map_take]
theorem Ayo(ho:o.op=.call { callee:=.builtin .clear,args:=#[x],argTypes:=#[t] })(hx:opd E F x=some (.sub s ps off len))(hg:getAt F s ps=some (.own (l.map e)))(ht:sliceT E.P t=some et)(hz:zeroT E.P et=some z)(hzl:z.cells.length=k)(hs:sizeT E.P et=k)(hp:Nat.blt 0 k=true)(hk:∀x,(e x).length=k)(hl:off+len<=l.length)
  (hset:(setAt F s ps (.own (clr e l off len z))).isSome=true):opC E f V call F o=some (fin (killB (setG F s ps (.own (clr e l off len z))) s ps) o.dst (.tup [])):=by
 have hp:0<k:=Ah8 hp;have h3:((l.map e).all fun c=>c.length==k)=true:=by simp[List.all_eq_true,hk]
 unfold opC;have hs':=App hset;unfold clr at hs';simp only[ho,builtinC,hx,ht,hg,hz,hzl,hs,zM];rw[if_pos ⟨hl,trivial,hp,h3⟩,hs'];rfl
theorem Anp{hi:Option Operand}{hi':Nat}(ho:o.op=.slice t x none hi none)(hx:opd E F x=some (.alias s ps))(hg:getAt F s ps=some (.own (clr e l off len z)))(h2:optNat E F hi=some (some hi'))(ht:sliceT E.P t=some et)(hs:sizeT E.P et=k)(hk:∀x,(e x).length=k)(hzl:z.cells.length=k)(hp:Nat.blt 0 k=true)(hl:off+len<=l.length)(h4:hi'<=l.length):
  valC E f call F o=some (.sub s ps 0 hi'):=by
 have hp:0<k:=Ah8 hp;have hw:wide k (clr e l off len z)=true:=by
  have hall:∀c∈clr e l off len z,c.length=k:=by
   intro c hc;simp only[clr,List.mem_append]at hc;rcases hc with(hc|hc)|hc
   .obtain ⟨a,_,rfl⟩:=zH.1 (List.mem_of_mem_take hc);exact hk a
   .rw [(List.mem_replicate.1 hc).2];exact hzl
   .obtain ⟨a,_,rfl⟩:=zH.1 (List.mem_of_mem_drop hc);exact hk a
  cases hc:clr e l off len z with
  |nil=>rfl
  |cons a r=>have:=hall a (by rw[hc];simp);simp[wide,this]
 unfold valC;have hlen:=Atm (e:=e) (z:=z) hl;simp only[ho,hx,h2,Af5,sliceD,ht,elemsOf,hg,hlen,hs,hw];simp[h4,hp]
theorem Avn{fd:Func}{N:Nat}{es:List (List D)}(hr:fd.results.toList=[.tmp t])(ht:get F t=.sub s [] 0 n)(hg:getAt F s []=some (.own es))(hn:n<=es.length)(hm:es.take n=m.map e)(hl:Ac9 E f 0 N=[]):Aez E f fd N F=some (sown (m.map e) (!m.isEmpty),[]):=by
 have hml:m.length=n:=by
  have:=congrArg List.length hm;simp at this;omega
 unfold Aez;simp only[hr,Aev,resC,takeOp,ht,takeSlot,takeSub,hg];by_cases h0:n=0
 .subst h0;have:m=[]:=List.length_eq_zero_iff.1 hml;subst this;simp[hl,Apl,sown]
 .have hset:(setAt F s [] D.undef)=some (put0 F s D.undef):=by simp[setAt,D.setP]
  rw[if_neg h0];have hmn:m≠[]:=fun h=>h0 (by rw[<-hml,h];rfl);have:sown (m.map e) (!m.isEmpty)=.own (m.map e):=by
   cases m with
   |nil=>exact absurd rfl hmn
   |cons a r=>rfl
  simp[hn,hset,hl,Apl,this,hm]
end
end Go.Own
namespace Go.Own
open D
def Ako(l:List Int):ByteArray:=⟨(l.map fun x=>UInt8.ofNat x.toNat).toArray⟩
theorem Azk{l:List Int}(h:∀x∈l,0<=x/\x<256):bytesOfD (l.map (eI .u8))=some (l.map fun x=>UInt8.ofNat x.toNat):=by
 induction l with
 |nil=>rfl
 |cons a l ih=>
  have ha:=h a (by simp);simp only[zD,bytesOfD,ih fun x hx=>h x (by simp[hx])];simp[eI,byteOfD,ha]
theorem Ap3{E:Env}{f:Nat}{F:Fr}{o:Oper}{call:Aaq}{s t et:Nat}{x:Operand}{d:D}{l:List Int}(ho:o.op=.convert s t x)(hx:opd E F x=some d)(hd:elemsOf F d=some (l.map (eI .u8)))(hs:E.P.underlying s=some (.slice et))(he:E.P.underlying et=some (.int .u8))(ht:E.P.underlying t=some .string)(h:∀x∈l,0<=x/\x<256):
  valC E f call F o=some (.lit (.string (Ako l))):=by
 unfold valC;simp only[ho,hx,convertD,hs,ht];cases d with
 |lit v=>simp[elemsOf]at hd
 |_=>simp only[he,hd,Azk h,zA,Ako]
end Go.Own
namespace Go.Own
theorem ne_eq{E:Env}{F F':Fr}{y:Operand}{a:List (List D)}(h:newElems E F y=some (a,F')):newElems E F y=some (a,newF E F y):=by
 unfold newF;rw[h]
end Go.Own
namespace Go.Own
open D
def Ah1(s:Nat):D->Bool
 |alias s' p=>s' == s&&!p.isEmpty
 |sub s' _ _ _=>s' == s
 |place s' _ _ _=>s' == s
 |_=>false
def Ayf(s:Nat):D->Bool
 |agg cs=>cs.any (Ah1 s)
 |fn _ cs=>cs.any (Ah1 s)
 |d=>Ah1 s d
def Au3(F:Fr)(s:Nat):Bool:=F.all fun x=>!Ayf s x.2
theorem Ase{s:Nat}:∀{d:D},Ah1 s d=false->kill1 (deadIn s []) d=d:=by
 intro d h;cases d with
 |alias s' p=>
  simp only[Ah1,zB,zE]at h;simp only[kill1,deadIn];rcases h with h|h
  .simp [h]
  .cases p with
   |nil=>simp
   |cons _ _=>cases h
 |sub s' p a b=>simp only[Ah1]at h;simp[kill1,deadIn,h]
 |place s' p a b=>simp only[Ah1]at h;simp[kill1,deadIn,h]
 |_=>rfl
theorem Ayd{s:Nat}:∀{cs:List D},cs.any (Ah1 s)=false->cs.map (kill1 (deadIn s []))=cs
 |[],_=>rfl
 |c::cs,h=>by
  simp only[List.any_cons,zG]at h;simp only[zD,Ase h.1,Ayd h.2]
theorem Be3{s:Nat}:∀{F:Fr},Au3 F s=true->killB F s []=F
 |[],_=>rfl
 |(k,d)::F,h=>by
  simp only[Au3,zF,zC,zK]at h;have ih:=Be3 (F:=F) h.2;simp only[killB,killF,zD]at ih⊢;rw[ih];have:kill2 (deadIn s []) d=d:=by
   have h1:=h.1;cases d with
   |agg cs=>simp only[Ayf]at h1;simp only[kill2,Ayd h1]
   |fn g cs=>simp only[Ayf]at h1;simp only[kill2,Ayd h1]
   |alias a b=>exact Ase (d:=alias a b) h1
   |sub a b c d=>exact Ase (d:=sub a b c d) h1
   |place a b c d=>exact Ase (d:=place a b c d) h1
   |_=>rfl
  rw[this]
theorem Aqm{E:Env}{f k i s:Nat}{V:List Nat}{F F0 F':Fr}{α:Type}{e e':Enc α}{l:List α}(h0:trim0 E f V k i F=F0)(hc:E.chill f k i=[(s,1000)])(hg:get F0 s=.own (l.map e))(hf:Fzn e id e')(h2:put0 F0 s (.sl (l.map e'))=F')(hn:Au3 F' s=true):trim E f V k i F=F':=by
 unfold trim;rw[hc,h0];simp only[chillAll,Any,hg,if_true];have h1:getAt F0 s []=some (.own (l.map e)):=by simp[getAt,D.getP,hg]
 have h3:setAt F0 s [] (.sl (l.map e'))=some F':=by simp[setAt,D.setP,h2]
 simp only[frzAt,h1,D.ex1,if_true,Abi hf,h3,zA,Option.getD_some];exact Be3 hn
end Go.Own
namespace Go.Own
open D
theorem Arx{cs cs':List D}(h:freezeCs cs=some cs'):(D.agg cs).freeze=some (.agg cs'):=by simp only[D.freeze,h,zA]
theorem Axj{b:Bool}{cs cs':List D}(hb:b=true)(h:freezeCs cs=some cs'):coldD b (.tup cs)=some (.tup cs'):=by
 subst hb;simp only[coldD,if_true,h,zA]
end Go.Own
namespace Go.Own
open D
end Go.Own
