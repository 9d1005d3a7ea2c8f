/- No conditions. -/
import Derived.Test.YtfpooeoklmlepaaGreatDoorOwn14
import Derived.Test.YtfpooeoklmlepaaGreatDoorOwn7
set_option linter.all false
open Bool renaming and_eq_false_iff->zA,and_eq_true->zB,not_eq_false'->zD,or_eq_false_iff->zG,not_eq_true'->zI
open Option renaming map_some->zC
open List renaming map_cons->zE,all_cons->zF,mem_map->zH,length_map->zK
namespace Go.Own
open D
section
variable{E:Env}{f:Nat}{V:List Nat}{F:Fr}{Q:Ex->Fr->Prop}{body:Code}{p:List Nat}{j:Nat}{s:St}{d d':D}{cs cs':List D}
theorem Bnh:snaps1 F []=some []:=rfl
theorem Bg7(h:snapD F d=some d')(hn:∀cs,d≠.agg cs)(hf:∀g cs,d≠.fn g cs):snap1 F d=some d':=by
 cases d with
 |agg cs=>exact absurd rfl (hn cs)
 |fn g cs=>exact absurd rfl (hf g cs)
 |_=>exact h
def oneC:D->Bool
 | .agg _=>false
 | .fn _ _=>false
 |_=>true
theorem Bng(h:snapD F d=some d')(hs:snaps1 F cs=some cs')(ho:oneC d=true:=by rfl):snaps1 F (d::cs)=some (d'::cs'):=by
 have:snap1 F d=some d':=Bg7 h (fun cs hc=>by subst hc;cases ho) (fun g cs hc=>by subst hc;cases ho);simp only[snaps1,this,hs]
theorem Bnj(hs:snaps1 F cs=some cs'):snapD F (.agg cs)=some (.agg cs'):=by simp only[snapD,hs,zC]
theorem Aax:flatCs []=true:=rfl
theorem Aa7(h:d.flat=true)(hs:flatCs cs=true):flatCs (d::cs)=true:=by simp only[flatCs,h,hs,Bool.and_self]
theorem Ae7(hs:flatCs cs=true):(D.agg cs).flat=true:=by simp only[D.flat,hs]
theorem Ach(hs:flatCs cs=true):(D.tup cs).flat=true:=by simp only[D.flat,hs]
def bstr(l:List UInt8):ByteArray:=⟨l.toArray⟩
def tz32(n:Int):Int:=Ack n.toNat 32 0
theorem Aml{g:Nat}{pr:List D->Option (D×List D)}{ds:List D}{r:D}{outs:List D}(h:E.prim g=some pr)(h2:pr ds=some (r,outs)):Ret E g ds r outs:=
 Ret.of (n:=1) (by simp only[Abw,h,h2])
theorem Be3{g t e:Nat}{l:List UInt8}{b:ByteArray}(h:E.prim g=some (Aip t e))(h2:l.length+b.size<=140737488355328):Ret E g [.bld t e l,.lit (.string b)] (.tup [.lit (.int .i64 b.size),.lit .nilIface]) [.bld t e (l++b.data.toList)]:=
 Aml h (by simp[Aip,h2])
theorem Bbo{g t e:Nat}{l:List UInt8}(h:E.prim g=some (Ahh t e)):Ret E g [.bld t e l] (.lit (.string (bstr l))) [.box [.undef,.undef]]:=
 Aml h (by simp[Ahh,bstr])
theorem Be4{g:Nat}{n:Int}(h:E.prim g=some Aiq)(h2:0<=n/\n<4294967296):Ret E g [.lit (.int .u32 n)] (.lit (.int .i64 (tz32 n))) []:=
 Aml h (by simp[Aiq,tz32,h2])
theorem Be2{g k b:Nat}{α:Type}{e:Enc α}{l:List α}(h:E.prim g=some (Aio k b))(hk:∀x,(e x).length=k)(hl:l.length*b<=140737488355328):Ret E g [.sl (l.map e)] (.own (l.map e)) []:=
 Aml h (by
  show(if(∀x∈l.map e,x.length=k)/\(l.map e).length*b<=140737488355328 then some (D.own (l.map e),([]:List D))else none)=_
  rw[if_pos ⟨fun x hx=>by obtain⟨a,_,rfl⟩:=zH.1 hx;exact hk a,by rw[zK];exact hl⟩])
end
end Go.Own
namespace Go.Own
open D
theorem Aji:freezeCs []=some []:=rfl
theorem Ac5{c c':D}{cs cs':List D}(h:c.freeze=some c')(hs:freezeCs cs=some cs'):freezeCs (c::cs)=some (c'::cs'):=by simp only[freezeCs,h,hs]
end Go.Own
namespace Go.Own
open D
def Ail(s:Nat):D->Bool
 |alias s' p=>s' == s&&!p.isEmpty
 |sub s' p _ _=>s' == s&&!p.isEmpty
 |place s' p _ _=>s' == s&&!p.isEmpty
 |_=>false
def Axj(s:Nat):D->Bool
 |agg cs=>cs.any (Ail s)
 |fn _ cs=>cs.any (Ail s)
 |d=>Ail s d
def Afo(F:Fr)(s:Nat):Bool:=F.all fun x=>!Axj s x.2
theorem Aj8{s:Nat}{q:Path}(hq:q≠[]):∀{d:D},Ail s d=false->kill1 (deadIn s q) d=d:=by
 have hp:∀p:Path,p.isEmpty=true->D.pre q p=false:=fun p h=>by
  cases p with
  |nil=>cases q with
   |nil=>exact absurd rfl hq
   |cons _ _=>rfl
  |cons _ _=>cases h
 intro d h;cases d with
 |alias s' p=>
  simp only[Ail,zA,zD]at h;simp only[kill1,deadIn];rcases h with h|h
  .simp [h]
  .simp [hp p h]
 |sub s' p a b=>
  simp only[Ail,zA,zD]at h;simp only[kill1,deadIn];rcases h with h|h
  .simp [h]
  .simp [hp p h]
 |place s' p a b=>
  simp only[Ail,zA,zD]at h;simp only[kill1,deadIn];rcases h with h|h
  .simp [h]
  .simp [hp p h]
 |_=>rfl
theorem Al6{s:Nat}{q:Path}(hq:q≠[]):∀{cs:List D},cs.any (Ail s)=false->cs.map (kill1 (deadIn s q))=cs
 |[],_=>rfl
 |c::cs,h=>by
  simp only[List.any_cons,zG]at h;simp only[zE,Aj8 hq h.1,Al6 hq h.2]
theorem Amg{s:Nat}{q:Path}(hq:q≠[]):∀{F:Fr},Afo F s=true->killB F s q=F
 |[],_=>rfl
 |(k,d)::F,h=>by
  simp only[Afo,zF,zB,zI]at h;have ih:=Amg hq (F:=F) h.2;simp only[killB,killF,zE]at ih⊢;rw[ih];have:kill2 (deadIn s q) d=d:=by
   have h1:=h.1;cases d with
   |agg cs=>simp only[Axj]at h1;simp only[kill2,Al6 hq h1]
   |fn g cs=>simp only[Axj]at h1;simp only[kill2,Al6 hq h1]
   |alias a b=>exact Aj8 (d:=alias a b) hq h1
   |sub a b c d=>exact Aj8 (d:=sub a b c d) hq h1
   |place a b c d=>exact Aj8 (d:=place a b c d) hq h1
   |_=>rfl
  rw[this]
theorem Aqm{F:Fr}{s:Nat}{d:D}:get (put0 F s d) s=d:=by
 induction F with
 |nil=>simp[put0,get]
 |cons x F ih=>
  obtain⟨k,e⟩:=x;simp only[put0]
  split
  .simp [get]
  .rename_i h;simp only[get,if_neg h];exact ih
theorem Bdz{F:Fr}{s:Nat}{d d':D}:put0 (put0 F s d) s d'=put0 F s d':=by
 induction F with
 |nil=>simp[put0]
 |cons x F ih=>
  obtain⟨k,e⟩:=x;simp only[put0]
  split
  .simp [put0]
  .rename_i h;simp only[put0,if_neg h,ih]
theorem Az3{F:Fr}{s:Nat}{es:List (List D)}(h:Afo F s=true):Afo (put0 F s (own es)) s=true:=by
 induction F with
 |nil=>rfl
 |cons x F ih=>
  obtain⟨k,e⟩:=x;simp only[Afo,zF,zB]at h;simp only[put0]
  split
  .simp only[Afo,zF,zB];exact⟨rfl,h.2⟩
  .simp only[Afo,zF,zB];exact⟨h.1,ih h.2⟩
section
variable{α:Type}{e e':Enc α}{l:List α}{F:Fr}{s:Nat}
def sown(es:List (List D))(b:Bool):D:=if b || !es.isEmpty then .own es else .sl []
theorem Bco{b c:Bool}(hb:b=true)(h:Fzn e id e):coldD b (sown (l.map e) c)=some (.sl (l.map e)):=by
 subst hb;unfold sown
 split
 .exact Ac9 h l
 .rename_i hc;cases l with
  |nil=>rfl
  |cons a l=>exact absurd (by simp) hc
theorem Bcw{c:Bool}(h:Flt e):(sown (l.map e) c).flatR=true:=by
 unfold sown
 split
 .exact flatR_of (Aam h)
 .rfl
theorem Axd{α:Type}{c:Prop}[Decidable c]{a:α}{x:Option α}(h:x=some a):(if c then some a else x)=some a:=by split<;>simp_all
end
end Go.Own
namespace Go.Own
open D
section
variable{E:Env}{f:Nat}{V:List Nat}{F:Fr}{o:Oper}{call:Abf}{α:Type}{e:Enc α}{l m:List α}{t et k s n off len:Nat}{ps:Path}{x:Operand}{z:D}
def clr(e:Enc α)(l:List α)(off len:Nat)(z:D):List (List D):=(l.map e).take off++List.replicate len z.cells++(l.map e).drop (off+len)
theorem Azs(h:off+len<=l.length):(clr e l off len z).length=l.length:=by simp[clr];omega
theorem Bf5(h:off+len<=l.length)(hn:n<=off):(clr e l off len z).take n=(l.take n).map e:=by
 unfold clr;rw[List.append_assoc,List.take_append_of_le_length (by simp;omega),List.take_take,Nat.min_eq_left hn,List.map_take]
theorem Bfv(ho:o.op=.call { callee:=.builtin .clear,args:=#[x],argTypes:=#[t] })(hx:opd E F x=some (.sub s ps off len))(hg:getAt F s ps=some (.own (l.map e)))(ht:sliceT E.P t=some et)(hz:zeroT E.P et=some z)(hzl:z.cells.length=k)(hs:sizeT E.P et=k)(hp:Nat.blt 0 k=true)(hk:∀x,(e x).length=k)(hl:off+len<=l.length)
  (hset:(setAt F s ps (.own (clr e l off len z))).isSome=true):opC E f V call F o=some (fin (killB (setG F s ps (.own (clr e l off len z))) s ps) o.dst (.tup [])):=by
 have hp:0<k:=Ah2 hp;have h3:((l.map e).all fun c=>c.length==k)=true:=by simp[List.all_eq_true,hk]
 unfold opC;have hs':=Ajk hset;unfold clr at hs';simp only[ho,builtinC,hx,ht,hg,hz,hzl,hs,zK];rw[if_pos ⟨hl,trivial,hp,h3⟩,hs'];rfl
theorem Avv{hi:Option Operand}{hi':Nat}(ho:o.op=.slice t x none hi none)(hx:opd E F x=some (.alias s ps))(hg:getAt F s ps=some (.own (clr e l off len z)))(h2:optNat E F hi=some (some hi'))(ht:sliceT E.P t=some et)(hs:sizeT E.P et=k)(hk:∀x,(e x).length=k)(hzl:z.cells.length=k)(hp:Nat.blt 0 k=true)(hl:off+len<=l.length)(h4:hi'<=l.length):
  valC E f call F o=some (.sub s ps 0 hi'):=by
 have hp:0<k:=Ah2 hp;have hw:wide k (clr e l off len z)=true:=by
  have hall:∀c∈clr e l off len z,c.length=k:=by
   intro c hc;simp only[clr,List.mem_append]at hc;rcases hc with(hc|hc)|hc
   .obtain ⟨a,_,rfl⟩:=zH.1 (List.mem_of_mem_take hc);exact hk a
   .rw [(List.mem_replicate.1 hc).2];exact hzl
   .obtain ⟨a,_,rfl⟩:=zH.1 (List.mem_of_mem_drop hc);exact hk a
  cases hc:clr e l off len z with
  |nil=>rfl
  |cons a r=>have:=hall a (by rw[hc];simp);simp[wide,this]
 unfold valC;have hlen:=Azs (e:=e) (z:=z) hl;simp only[ho,hx,h2,Ae9,sliceD,ht,elemsOf,hg,hlen,hs,hw];simp[h4,hp]
theorem Bdl{fd:Func}{N:Nat}{es:List (List D)}(hr:fd.results.toList=[.tmp t])(ht:get F t=.sub s [] 0 n)(hg:getAt F s []=some (.own es))(hn:n<=es.length)(hm:es.take n=m.map e)(hl:Acg E f 0 N=[]):Ag8 E f fd N F=some (sown (m.map e) (!m.isEmpty),[]):=by
 have hml:m.length=n:=by
  have:=congrArg List.length hm;simp at this;omega
 unfold Ag8;simp only[hr,Afr,resC,takeOp,ht,takeSlot,takeSub,hg];by_cases h0:n=0
 .subst h0;have:m=[]:=List.length_eq_zero_iff.1 hml;subst this;simp[hl,Asg,sown]
 .have hset:(setAt F s [] D.undef)=some (put0 F s D.undef):=by simp[setAt,D.setP]
  rw[if_neg h0];have hmn:m≠[]:=fun h=>h0 (by rw[<-hml,h];rfl);have:sown (m.map e) (!m.isEmpty)=.own (m.map e):=by
   cases m with
   |nil=>exact absurd rfl hmn
   |cons a r=>rfl
  simp[hn,hset,hl,Asg,this,hm]
end
end Go.Own
namespace Go.Own
open D
def Ake(l:List Int):ByteArray:=⟨(l.map fun x=>UInt8.ofNat x.toNat).toArray⟩
theorem Ayv{l:List Int}(h:∀x∈l,0<=x/\x<256):bytesOfD (l.map (eI .u8))=some (l.map fun x=>UInt8.ofNat x.toNat):=by
 induction l with
 |nil=>rfl
 |cons a l ih=>
  have ha:=h a (by simp);simp only[zE,bytesOfD,ih fun x hx=>h x (by simp[hx])];simp[eI,byteOfD,ha]
theorem Aoh{E:Env}{f:Nat}{F:Fr}{o:Oper}{call:Abf}{s t et:Nat}{x:Operand}{d:D}{l:List Int}(ho:o.op=.convert s t x)(hx:opd E F x=some d)(hd:elemsOf F d=some (l.map (eI .u8)))(hs:E.P.underlying s=some (.slice et))(he:E.P.underlying et=some (.int .u8))(ht:E.P.underlying t=some .string)(h:∀x∈l,0<=x/\x<256):
  valC E f call F o=some (.lit (.string (Ake l))):=by
 unfold valC;simp only[ho,hx,convertD,hs,ht];cases d with
 |lit v=>simp[elemsOf]at hd
 |_=>simp only[he,hd,Ayv h,zC,Ake]
end Go.Own
namespace Go.Own
theorem ne_eq{E:Env}{F F':Fr}{y:Operand}{a:List (List D)}(h:newElems E F y=some (a,F')):newElems E F y=some (a,newF E F y):=by
 unfold newF;rw[h]
end Go.Own
namespace Go.Own
open D
def Agu(s:Nat):D->Bool
 |alias s' p=>s' == s&&!p.isEmpty
 |sub s' _ _ _=>s' == s
 |place s' _ _ _=>s' == s
 |_=>false
def Axk(s:Nat):D->Bool
 |agg cs=>cs.any (Agu s)
 |fn _ cs=>cs.any (Agu s)
 |d=>Agu s d
def Atp(F:Fr)(s:Nat):Bool:=F.all fun x=>!Axk s x.2
theorem As2{s:Nat}:∀{d:D},Agu s d=false->kill1 (deadIn s []) d=d:=by
 intro d h;cases d with
 |alias s' p=>
  simp only[Agu,zA,zD]at h;simp only[kill1,deadIn];rcases h with h|h
  .simp [h]
  .cases p with
   |nil=>simp
   |cons _ _=>cases h
 |sub s' p a b=>simp only[Agu]at h;simp[kill1,deadIn,h]
 |place s' p a b=>simp only[Agu]at h;simp[kill1,deadIn,h]
 |_=>rfl
theorem Axi{s:Nat}:∀{cs:List D},cs.any (Agu s)=false->cs.map (kill1 (deadIn s []))=cs
 |[],_=>rfl
 |c::cs,h=>by
  simp only[List.any_cons,zG]at h;simp only[zE,As2 h.1,Axi h.2]
theorem Bdk{s:Nat}:∀{F:Fr},Atp F s=true->killB F s []=F
 |[],_=>rfl
 |(k,d)::F,h=>by
  simp only[Atp,zF,zB,zI]at h;have ih:=Bdk (F:=F) h.2;simp only[killB,killF,zE]at ih⊢;rw[ih];have:kill2 (deadIn s []) d=d:=by
   have h1:=h.1;cases d with
   |agg cs=>simp only[Axk]at h1;simp only[kill2,Axi h1]
   |fn g cs=>simp only[Axk]at h1;simp only[kill2,Axi h1]
   |alias a b=>exact As2 (d:=alias a b) h1
   |sub a b c d=>exact As2 (d:=sub a b c d) h1
   |place a b c d=>exact As2 (d:=place a b c d) h1
   |_=>rfl
  rw[this]
theorem Aq7{E:Env}{f k i s:Nat}{V:List Nat}{F F0 F':Fr}{α:Type}{e e':Enc α}{l:List α}(h0:trim0 E f V k i F=F0)(hc:E.chill f k i=[(s,1000)])(hg:get F0 s=.own (l.map e))(hf:Fzn e id e')(h2:put0 F0 s (.sl (l.map e'))=F')(hn:Atp F' s=true):trim E f V k i F=F':=by
 unfold trim;rw[hc,h0];simp only[chillAll,Ane,hg,if_true];have h1:getAt F0 s []=some (.own (l.map e)):=by simp[getAt,D.getP,hg]
 have h3:setAt F0 s [] (.sl (l.map e'))=some F':=by simp[setAt,D.setP,h2]
 simp only[frzAt,h1,D.ex1,if_true,Ac9 hf,h3,zC,Option.getD_some];exact Bdk hn
end Go.Own
namespace Go.Own
open D
theorem Amc{cs cs':List D}(h:freezeCs cs=some cs'):(D.agg cs).freeze=some (.agg cs'):=by simp only[D.freeze,h,zC]
theorem Bni{b:Bool}{cs cs':List D}(hb:b=true)(h:freezeCs cs=some cs'):coldD b (.agg cs)=some (.agg cs'):=by subst hb;exact Amc h
theorem Aqf{b:Bool}{cs cs':List D}(hb:b=true)(h:freezeCs cs=some cs'):coldD b (.tup cs)=some (.tup cs'):=by
 subst hb;simp only[coldD,if_true,h,zC]
end Go.Own
namespace Go.Own
open D
def eqT(E:Env)(t:Nat)(xs ys:List D):Option Bool:=match E.P.underlying t with
 |some (.struct fs)=>if E.P.stoodInHeld t || E.P.eqGuardType E.P.depth t then none else eqFieldsD E.P xs ys fs.toList
 |_=>none
def eqs:List Bool->Option Bool
 |[]=>some true
 |b::bs=>if b then eqs bs else some false
theorem Azx:∀l:List Bool,eqs l=some (l.all id)
 |[]=>rfl
 |true::l=>by simp[eqs,Azx l]
 |false::l=>by simp[eqs]
theorem Bhc{E:Env}{t:Nat}{xs ys:List D}{b:Bool}(h:eqT E t xs ys=some b):binD E .eql t (.agg xs) (.agg ys)=some (.lit (.bool b))/\binD E .neq t (.agg xs) (.agg ys)=some (.lit (.bool !b)):=by
 unfold eqT at h;unfold binD
 split at h
 .rename_i fs hu
  split at h
  .cases h
  .rename_i hg;simp only[hu,hg,h];exact⟨rfl,rfl⟩
 .cases h
theorem Azm{E:Env}{t:Nat}{xs ys:List D}{l:List Bool}(K:eqT E t xs ys=eqs l:=by kernel_rfl):binD E .eql t (.agg xs) (.agg ys)=some (.lit (.bool (l.all id))):=(Bhc (K.trans (Azx l))).1
end Go.Own
