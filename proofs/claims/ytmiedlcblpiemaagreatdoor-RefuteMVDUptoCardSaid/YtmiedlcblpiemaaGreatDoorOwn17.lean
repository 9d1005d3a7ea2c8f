/- An interpreter of function bodies, sound. No conditions. -/
import Derived.Test.YtmiedlcblpiemaaGreatDoorOwn14
import Derived.Test.YtmiedlcblpiemaaGreatDoorOwn7
set_option linter.all false
open Option renaming map_some->zA
open Bool renaming and_eq_false_iff->zB,and_eq_true->zC,not_eq_false'->zE,or_eq_false_iff->zG,not_eq_true'->zK
open List renaming map_cons->zD,all_cons->zF,mem_map->zH,set_cons_zero->zI,append_assoc->zL,length_map->zM
namespace Go.Own
open D
section
variable{E:Env}{f:Nat}{V:List Nat}{F:Fr}{Q:Ex->Fr->Prop}{body:Code}{p:List Nat}{j:Nat}{s:St}{d d':D}{cs cs':List D}
theorem Agi:snaps1 F []=some []:=rfl
theorem Biu(h:snapD F d=some d')(hn:∀cs,d≠.agg cs)(hf:∀g cs,d≠.fn g cs):snap1 F d=some d':=by
 cases d with
 |agg cs=>exact absurd rfl (hn cs)
 |fn g cs=>exact absurd rfl (hf g cs)
 |_=>exact h
def oneC:D->Bool
 | .agg _=>false
 | .fn _ _=>false
 |_=>true
theorem Abo(h:snapD F d=some d')(hs:snaps1 F cs=some cs')(ho:oneC d=true:=by rfl):snaps1 F (d::cs)=some (d'::cs'):=by
 have:snap1 F d=some d':=Biu h (fun cs hc=>by subst hc;cases ho) (fun g cs hc=>by subst hc;cases ho);simp only[snaps1,this,hs]
theorem Aj8(hs:snaps1 F cs=some cs'):snapD F (.agg cs)=some (.agg cs'):=by simp only[snapD,hs,zA]
theorem Blr{g:Nat}(hs:snaps1 F cs=some cs'):snapD F (.fn g cs)=some (.fn g cs'):=by simp only[snapD,hs,zA]
theorem Aan:flatCs []=true:=rfl
theorem Aa6(h:d.flat=true)(hs:flatCs cs=true):flatCs (d::cs)=true:=by simp only[flatCs,h,hs,Bool.and_self]
theorem Ag8(hs:flatCs cs=true):(D.agg cs).flat=true:=by simp only[D.flat,hs]
theorem Abq(hs:flatCs cs=true):(D.tup cs).flat=true:=by simp only[D.flat,hs]
def bstr(l:List UInt8):ByteArray:=⟨l.toArray⟩
def tz32(n:Int):Int:=Ad0 n.toNat 32 0
theorem Aol{g:Nat}{pr:List D->Option (D×List D)}{ds:List D}{r:D}{outs:List D}(h:E.prim g=some pr)(h2:pr ds=some (r,outs)):Ret E g ds r outs:=
 Ret.of (n:=1) (by simp only[Abu,h,h2])
theorem Bgg{g t e:Nat}{l:List UInt8}{b:ByteArray}(h:E.prim g=some (Ajw t e))(h2:l.length+b.size<=140737488355328):Ret E g [.bld t e l,.lit (.string b)] (.tup [.lit (.int .i64 b.size),.lit .nilIface]) [.bld t e (l++b.data.toList)]:=
 Aol h (by simp[Ajw,h2])
theorem Bed{g t e:Nat}{l:List UInt8}(h:E.prim g=some (Aig t e)):Ret E g [.bld t e l] (.lit (.string (bstr l))) [.box [.undef,.undef]]:=
 Aol h (by simp[Aig,bstr])
theorem Bgh{g:Nat}{n:Int}(h:E.prim g=some Ajx)(h2:0<=n/\n<4294967296):Ret E g [.lit (.int .u32 n)] (.lit (.int .i64 (tz32 n))) []:=
 Aol h (by simp[Ajx,tz32,h2])
theorem Amd{g k b:Nat}{O:Type}{e:Enc O}{l:List O}(h:E.prim g=some (Ajv k b))(hk:∀x,(e x).length=k)(hl:l.length*b<=140737488355328):Ret E g [.sl (l.map e)] (.own (l.map e)) []:=
 Aol h (by
  show(if(∀x∈l.map e,x.length=k)/\(l.map e).length*b<=140737488355328 then some (D.own (l.map e),([]:List D))else none)=_
  rw[if_pos ⟨fun x hx=>by obtain⟨a,_,rfl⟩:=zH.1 hx;exact hk a,by rw[zM];exact hl⟩])
end
end Go.Own
namespace Go.Own
open D
theorem Agq:freezeCs []=some []:=rfl
theorem Aca{c c':D}{cs cs':List D}(h:c.freeze=some c')(hs:freezeCs cs=some cs'):freezeCs (c::cs)=some (c'::cs'):=by simp only[freezeCs,h,hs]
theorem Biv{F:Fr}{s:Nat}{ps:Path}{cs cs':List D}(hg:getAt F s ps=some (.box cs))(h:freezeCs cs=some cs'):snapD F (.alias s ps)=some (.ref cs'):=by
 simp only[snapD,snap1,freezeAt,hg,D.freeze,h,zA]
end Go.Own
namespace Go.Own
open D
def Ajr(s:Nat):D->Bool
 |alias s' p=>s' == s&&!p.isEmpty
 |sub s' p _ _=>s' == s&&!p.isEmpty
 |place s' p _ _=>s' == s&&!p.isEmpty
 |_=>false
def Ba5(s:Nat):D->Bool
 |agg cs=>cs.any (Ajr s)
 |fn _ cs=>cs.any (Ajr s)
 |d=>Ajr s d
def Aha(F:Fr)(s:Nat):Bool:=F.all fun x=>!Ba5 s x.2
theorem Ake{s:Nat}{q:Path}(hq:q≠[]):∀{d:D},Ajr s d=false->kill1 (deadIn s q) d=d:=by
 have hp:∀p:Path,p.isEmpty=true->D.pre q p=false:=fun p h=>by
  cases p with
  |nil=>cases q with
   |nil=>exact absurd rfl hq
   |cons _ _=>rfl
  |cons _ _=>cases h
 intro d h;cases d with
 |alias s' p=>
  simp only[Ajr,zB,zE]at h;simp only[kill1,deadIn];rcases h with h|h
  .simp [h]
  .simp [hp p h]
 |sub s' p a b=>
  simp only[Ajr,zB,zE]at h;simp only[kill1,deadIn];rcases h with h|h
  .simp [h]
  .simp [hp p h]
 |place s' p a b=>
  simp only[Ajr,zB,zE]at h;simp only[kill1,deadIn];rcases h with h|h
  .simp [h]
  .simp [hp p h]
 |_=>rfl
theorem Amq{s:Nat}{q:Path}(hq:q≠[]):∀{cs:List D},cs.any (Ajr s)=false->cs.map (kill1 (deadIn s q))=cs
 |[],_=>rfl
 |c::cs,h=>by
  simp only[List.any_cons,zG]at h;simp only[zD,Ake hq h.1,Amq hq h.2]
theorem Aua{s:Nat}{q:Path}(hq:q≠[]):∀{F:Fr},Aha F s=true->killB F s q=F
 |[],_=>rfl
 |(k,d)::F,h=>by
  simp only[Aha,zF,zC,zK]at h;have ih:=Aua hq (F:=F) h.2;simp only[killB,killF,zD]at ih⊢;rw[ih];have:kill2 (deadIn s q) d=d:=by
   have h1:=h.1;cases d with
   |agg cs=>simp only[Ba5]at h1;simp only[kill2,Amq hq h1]
   |fn g cs=>simp only[Ba5]at h1;simp only[kill2,Amq hq h1]
   |alias a b=>exact Ake (d:=alias a b) hq h1
   |sub a b c d=>exact Ake (d:=sub a b c d) hq h1
   |place a b c d=>exact Ake (d:=place a b c d) hq h1
   |_=>rfl
  rw[this]
theorem Azt{F:Fr}{s:Nat}{d:D}:get (put0 F s d) s=d:=by
 induction F with
 |nil=>simp[put0,get]
 |cons x F ih=>
  obtain⟨k,e⟩:=x;simp only[put0]
  split
  .simp [get]
  .rename_i h;simp only[get,if_neg h];exact ih
theorem Bgd{F:Fr}{s:Nat}{d d':D}:put0 (put0 F s d) s d'=put0 F s d':=by
 induction F with
 |nil=>simp[put0]
 |cons x F ih=>
  obtain⟨k,e⟩:=x;simp only[put0]
  split
  .simp [put0]
  .rename_i h;simp only[put0,if_neg h,ih]
theorem Bbt{F:Fr}{s:Nat}{es:List (List D)}(h:Aha F s=true):Aha (put0 F s (own es)) s=true:=by
 induction F with
 |nil=>rfl
 |cons x F ih=>
  obtain⟨k,e⟩:=x;simp only[Aha,zF,zC]at h;simp only[put0]
  split
  .simp only[Aha,zF,zC];exact⟨rfl,h.2⟩
  .simp only[Aha,zF,zC];exact⟨h.1,ih h.2⟩
section
variable{O:Type}{e e':Enc O}{l:List O}{F:Fr}{s:Nat}
theorem Awj{l:List (List O)}(hg:get F s=.own (l.map (eOw e)))(hf:Fzn e id e')(hn:Aha F s=true):∀n,n<=l.length->chillS F s 0 n=put0 F s (.own ((l.take n).map (eSl e')++(l.drop n).map (eOw e)))
 |0,_=>by
  simp only[chillS,List.take_zero,List.map_nil,List.nil_append,List.drop_zero];rw[<-hg];have:∀F:Fr,(∃d,get F s=d/\d≠.undef)->put0 F s (get F s)=F:=by
   intro F
   induction F with
   |nil=>rintro⟨d,h,h2⟩;exact absurd h.symm h2
   |cons x F ih=>
    obtain⟨k,e⟩:=x;rintro⟨d,h,h2⟩;simp only[get]at h⊢;simp only[put0]
    split
    .rename_i hk;subst hk;rfl
    .rename_i hk;rw[if_neg hk]at h;rw[ih ⟨d,h,h2⟩]
  exact(this F ⟨_,hg,by simp⟩).symm
 |n+1,hn1=>by
  have ih:=Awj hg hf hn n (by omega);simp only[chillS,ih];have hd:l.drop n=l[n]::l.drop (n+1):=List.drop_eq_getElem_cons (by omega);have hlen:((l.take n).map (eSl e')).length=n:=by simp;omega
  have hat:((l.take n).map (eSl e')++(l.drop n).map (eOw e))[n]?=some [.own (l[n].map e)]:=by
   rw[List.getElem?_append_right (by omega),hlen,Nat.sub_self,hd];rfl
  have h1:getAt (put0 F s (.own ((l.take n).map (eSl e')++(l.drop n).map (eOw e)))) s [(n,0)]=some (.own (l[n].map e)):=by
   simp only[getAt,Azt,D.getP,D.elem,hat];rfl
  have hset:((l.take n).map (eSl e')++(l.drop n).map (eOw e)).set n [.sl (l[n].map e')]=(l.take (n+1)).map (eSl e')++(l.drop (n+1)).map (eOw e):=by
   rw[List.set_append_right _ _ (by omega),hlen,Nat.sub_self,hd,zD,zI,List.take_add_one,List.getElem?_eq_getElem (by omega),Option.toList_some,List.map_append,zL];rfl
  have h2:setAt (put0 F s (.own ((l.take n).map (eSl e')++(l.drop n).map (eOw e)))) s [(n,0)] (.sl (l[n].map e'))=some (put0 F s (.own ((l.take (n+1)).map (eSl e')++(l.drop (n+1)).map (eOw e)))):=by
   simp only[setAt,Azt,D.setP,D.elem,hat,List.getElem?_cons_zero,D.setElem,zI,zA,Bgd,hset]
  simp only[frzAt,h1,D.ex1,if_true,Acj hf,h2,zA];exact Aua (by simp) (Bbt hn)
theorem Bf8{l:List (List O)}(hg:get F s=.own (l.map (eOw e)))(hf:Fzn e id e')(hn:Aha F s=true):Ape F s 0=put0 F s (.own (l.map (eSl e'))):=by
 unfold Ape;rw[hg];simp only[Nat.reduceEqDiff,if_false];rw[Awj hg hf hn _ (by simp)];simp
theorem Beo{E:Env}{f k i:Nat}{V:List Nat}{F0 F':Fr}{l:List (List O)}(h0:trim0 E f V k i F=F0)(hc:E.chill f k i=[(s,0)])(hg:get F0 s=.own (l.map (eOw e)))(hf:Fzn e id e')(hn:Aha F0 s=true)(h2:put0 F0 s (.own (l.map (eSl e')))=F'):trim E f V k i F=F':=by
 unfold trim;rw[hc,h0];simp only[chillAll];rw[Bf8 hg hf hn,h2]
def sown(es:List (List D))(b:Bool):D:=if b || !es.isEmpty then .own es else .sl []
theorem Awn{b c:Bool}(hb:b=true)(h:Fzn e id e):coldD b (sown (l.map e) c)=some (.sl (l.map e)):=by
 subst hb;unfold sown
 split
 .exact Acj h l
 .rename_i hc;cases l with
  |nil=>rfl
  |cons a l=>exact absurd (by simp) hc
theorem Bfn{c:Bool}(h:Flt e):(sown (l.map e) c).flatR=true:=by
 unfold sown
 split
 .exact flatR_of (Aaj h)
 .rfl
theorem Bi0{O:Type}{c:Prop}[Decidable c]{a:O}{x:Option O}(h:x=some a):(if c then some a else x)=some a:=by split<;>simp_all
end
end Go.Own
namespace Go.Own
open D
section
variable{E:Env}{f:Nat}{V:List Nat}{F:Fr}{o:Oper}{call:Ab0}{O:Type}{e:Enc O}{l m:List O}{t et k s n off len:Nat}{ps:Path}{x:Operand}{z:D}
def clr(e:Enc O)(l:List O)(off len:Nat)(z:D):List (List D):=(l.map e).take off++List.replicate len z.cells++(l.map e).drop (off+len)
theorem Avi(h:off+len<=l.length):(clr e l off len z).length=l.length:=by simp[clr];omega
theorem Az8(h:off+len<=l.length)(hn:n<=off):(clr e l off len z).take n=(l.take n).map e:=by
 unfold clr;rw[zL,List.take_append_of_le_length (by simp;omega),List.take_take,Nat.min_eq_left hn,List.map_take]
theorem Bah(ho:o.op=.call { callee:=.builtin .clear,args:=#[x],argTypes:=#[t] })(hx:opd E F x=some (.sub s ps off len))(hg:getAt F s ps=some (.own (l.map e)))(ht:sliceT E.P t=some et)(hz:zeroT E.P et=some z)(hzl:z.cells.length=k)(hs:sizeT E.P et=k)(hp:Nat.blt 0 k=true)(hk:∀x,(e x).length=k)(hl:off+len<=l.length)
  (hset:(setAt F s ps (.own (clr e l off len z))).isSome=true):opC E f V call F o=some (fin (killB (setG F s ps (.own (clr e l off len z))) s ps) o.dst (.tup [])):=by
 have hp:0<k:=Ag3 hp;have h3:((l.map e).all fun c=>c.length==k)=true:=by simp[List.all_eq_true,hk]
 unfold opC;have hs':=Ard hset;unfold clr at hs';simp only[ho,builtinC,hx,ht,hg,hz,hzl,hs,zM];rw[if_pos ⟨hl,trivial,hp,h3⟩,hs'];rfl
theorem Ap2{hi:Option Operand}{hi':Nat}(ho:o.op=.slice t x none hi none)(hx:opd E F x=some (.alias s ps))(hg:getAt F s ps=some (.own (clr e l off len z)))(h2:optNat E F hi=some (some hi'))(ht:sliceT E.P t=some et)(hs:sizeT E.P et=k)(hk:∀x,(e x).length=k)(hzl:z.cells.length=k)(hp:Nat.blt 0 k=true)(hl:off+len<=l.length)(h4:hi'<=l.length):
  valC E f call F o=some (.sub s ps 0 hi'):=by
 have hp:0<k:=Ag3 hp;have hw:wide k (clr e l off len z)=true:=by
  have hall:∀c∈clr e l off len z,c.length=k:=by
   intro c hc;simp only[clr,List.mem_append]at hc;rcases hc with(hc|hc)|hc
   .obtain ⟨a,_,rfl⟩:=zH.1 (List.mem_of_mem_take hc);exact hk a
   .rw [(List.mem_replicate.1 hc).2];exact hzl
   .obtain ⟨a,_,rfl⟩:=zH.1 (List.mem_of_mem_drop hc);exact hk a
  cases hc:clr e l off len z with
  |nil=>rfl
  |cons a r=>have:=hall a (by rw[hc];simp);simp[wide,this]
 unfold valC;have hlen:=Avi (e:=e) (z:=z) hl;simp only[ho,hx,h2,Afv,sliceD,ht,elemsOf,hg,hlen,hs,hw];simp[h4,hp]
theorem Axd{fd:Func}{N:Nat}{es:List (List D)}(hr:fd.results.toList=[.tmp t])(ht:get F t=.sub s [] 0 n)(hg:getAt F s []=some (.own es))(hn:n<=es.length)(hm:es.take n=m.map e)(hl:Aci E f 0 N=[]):Aej E f fd N F=some (sown (m.map e) (!m.isEmpty),[]):=by
 have hml:m.length=n:=by
  have:=congrArg List.length hm;simp at this;omega
 unfold Aej;simp only[hr,Aep,resC,takeOp,ht,takeSlot,takeSub,hg];by_cases h0:n=0
 .subst h0;have:m=[]:=List.length_eq_zero_iff.1 hml;subst this;simp[hl,Aod,sown]
 .have hset:(setAt F s [] D.undef)=some (put0 F s D.undef):=by simp[setAt,D.setP]
  rw[if_neg h0];have hmn:m≠[]:=fun h=>h0 (by rw[<-hml,h];rfl);have:sown (m.map e) (!m.isEmpty)=.own (m.map e):=by
   cases m with
   |nil=>exact absurd rfl hmn
   |cons a r=>rfl
  simp[hn,hset,hl,Aod,this,hm]
end
end Go.Own
namespace Go.Own
open D
def Alv(l:List Int):ByteArray:=⟨(l.map fun x=>UInt8.ofNat x.toNat).toArray⟩
theorem Bbh{l:List Int}(h:∀x∈l,0<=x/\x<256):bytesOfD (l.map (eI .u8))=some (l.map fun x=>UInt8.ofNat x.toNat):=by
 induction l with
 |nil=>rfl
 |cons a l ih=>
  have ha:=h a (by simp);simp only[zD,bytesOfD,ih fun x hx=>h x (by simp[hx])];simp[eI,byteOfD,ha]
theorem Aqn{E:Env}{f:Nat}{F:Fr}{o:Oper}{call:Ab0}{s t et:Nat}{x:Operand}{d:D}{l:List Int}(ho:o.op=.convert s t x)(hx:opd E F x=some d)(hd:elemsOf F d=some (l.map (eI .u8)))(hs:E.P.underlying s=some (.slice et))(he:E.P.underlying et=some (.int .u8))(ht:E.P.underlying t=some .string)(h:∀x∈l,0<=x/\x<256):
  valC E f call F o=some (.lit (.string (Alv l))):=by
 unfold valC;simp only[ho,hx,convertD,hs,ht];cases d with
 |lit v=>simp[elemsOf]at hd
 |_=>simp only[he,hd,Bbh h,zA,Alv]
end Go.Own
namespace Go.Own
theorem ne_eq{E:Env}{F F':Fr}{y:Operand}{a:List (List D)}(h:newElems E F y=some (a,F')):newElems E F y=some (a,newF E F y):=by
 unfold newF;rw[h]
end Go.Own
namespace Go.Own
open D
def Ahw(s:Nat):D->Bool
 |alias s' p=>s' == s&&!p.isEmpty
 |sub s' _ _ _=>s' == s
 |place s' _ _ _=>s' == s
 |_=>false
def Ba6(s:Nat):D->Bool
 |agg cs=>cs.any (Ahw s)
 |fn _ cs=>cs.any (Ahw s)
 |d=>Ahw s d
def Avx(F:Fr)(s:Nat):Bool:=F.all fun x=>!Ba6 s x.2
theorem Aub{s:Nat}:∀{d:D},Ahw s d=false->kill1 (deadIn s []) d=d:=by
 intro d h;cases d with
 |alias s' p=>
  simp only[Ahw,zB,zE]at h;simp only[kill1,deadIn];rcases h with h|h
  .simp [h]
  .cases p with
   |nil=>simp
   |cons _ _=>cases h
 |sub s' p a b=>simp only[Ahw]at h;simp[kill1,deadIn,h]
 |place s' p a b=>simp only[Ahw]at h;simp[kill1,deadIn,h]
 |_=>rfl
theorem Ba4{s:Nat}:∀{cs:List D},cs.any (Ahw s)=false->cs.map (kill1 (deadIn s []))=cs
 |[],_=>rfl
 |c::cs,h=>by
  simp only[List.any_cons,zG]at h;simp only[zD,Aub h.1,Ba4 h.2]
theorem Bg1{s:Nat}:∀{F:Fr},Avx F s=true->killB F s []=F
 |[],_=>rfl
 |(k,d)::F,h=>by
  simp only[Avx,zF,zC,zK]at h;have ih:=Bg1 (F:=F) h.2;simp only[killB,killF,zD]at ih⊢;rw[ih];have:kill2 (deadIn s []) d=d:=by
   have h1:=h.1;cases d with
   |agg cs=>simp only[Ba6]at h1;simp only[kill2,Ba4 h1]
   |fn g cs=>simp only[Ba6]at h1;simp only[kill2,Ba4 h1]
   |alias a b=>exact Aub (d:=alias a b) h1
   |sub a b c d=>exact Aub (d:=sub a b c d) h1
   |place a b c d=>exact Aub (d:=place a b c d) h1
   |_=>rfl
  rw[this]
theorem Bc5{E:Env}{f k i s:Nat}{V:List Nat}{F F0 F':Fr}{O:Type}{e e':Enc O}{l:List O}(h0:trim0 E f V k i F=F0)(hc:E.chill f k i=[(s,1000)])(hg:get F0 s=.own (l.map e))(hf:Fzn e id e')(h2:put0 F0 s (.sl (l.map e'))=F')(hn:Avx F' s=true):trim E f V k i F=F':=by
 unfold trim;rw[hc,h0];simp only[chillAll,Ape,hg,if_true];have h1:getAt F0 s []=some (.own (l.map e)):=by simp[getAt,D.getP,hg]
 have h3:setAt F0 s [] (.sl (l.map e'))=some F':=by simp[setAt,D.setP,h2]
 simp only[frzAt,h1,D.ex1,if_true,Acj hf,h3,zA,Option.getD_some];exact Bg1 hn
end Go.Own
namespace Go.Own
open D
theorem Bdo{cs cs':List D}(h:freezeCs cs=some cs'):(D.agg cs).freeze=some (.agg cs'):=by simp only[D.freeze,h,zA]
theorem Bhj{b:Bool}{cs cs':List D}(hb:b=true)(h:freezeCs cs=some cs'):coldD b (.tup cs)=some (.tup cs'):=by
 subst hb;simp only[coldD,if_true,h,zA]
end Go.Own
namespace Go.Own
open D
end Go.Own
