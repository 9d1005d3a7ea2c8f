/- An interpreter of function bodies, sound. No conditions. -/
import Derived.Test.YtcbhcnkfefbddaaGreatDoorOwn14
import Derived.Test.YtcbhcnkfefbddaaGreatDoorOwn7
set_option linter.all false
open Option renaming map_some->aA
open Bool renaming and_eq_false_iff->aM,and_eq_true->aQ,not_eq_false'->ba,or_eq_false_iff->bB,not_eq_true'->b5
open List renaming map_cons->a6,all_cons->bo,mem_map->bL,set_cons_zero->b3,append_assoc->cc,length_map->cu
namespace Go.aS
open D
section
variable{E:Env}{f:Nat}{V:List Nat}{F aD:Fr}{Q:dU->Fr->Prop}{body:Code}{p Xf:List Nat}{j:Nat}{s:oD}
end
end Go.aS
namespace Go.aS
open D
section
variable{E:Env}{f:Nat}{V:List Nat}{F:Fr}{Q:dU->Fr->Prop}{body:Code}{p:List Nat}{j:Nat}{s:oD}{d bf:D}{cs b8:List D}
theorem abv:jR F []=some []:=rfl
theorem acN(h:eV F d=some bf)(ao:∀cs,d≠.agg cs)(hf:∀g cs,d≠.fn g cs):fu F d=some bf:=by
 cases d with
 |agg cs=>exact absurd rfl (ao cs)
 |fn g cs=>exact absurd rfl (hf g cs)
 |_=>exact h
def ak6:D->Bool
 | .agg _=>false
 | .fn _ _=>false
 |_=>true
theorem aar(h:eV F d=some bf)(ae:jR F cs=some b8)(an:ak6 d=true:=by rfl):jR F (d::cs)=some (bf::b8):=by
 have:fu F d=some bf:=acN h (λcs ad=>by subst ad;cases an) (λg cs ad=>by subst ad;cases an);simp only[jR,this,ae]
theorem aec{g:Nat}(ae:jR F cs=some b8):eV F (.fn g cs)=some (.fn g b8):=by simp only[eV,ae,aA]
theorem jc:lV []=true:=rfl
theorem e_(h:d.flat=true)(ae:lV cs=true):lV (d::cs)=true:=by simp only[lV,h,ae,Bool.and_self]
theorem z2(ae:lV cs=true):(D.agg cs).flat=true:=by simp only[D.flat,ae]
theorem mj(ae:lV cs=true):(D.bt cs).flat=true:=by simp only[D.flat,ae]
def rE(l:List UInt8):ByteArray:=⟨l.toArray⟩
def zB(n:Int):Int:=kN n.toNat 32 0
theorem GF{g:Nat}{Xg:List D->Option (D×List D)}{az:List D}{r:D}{outs:List D}(h:E.kG g=some Xg)(aa:Xg az=some (r,outs)):bR E g az r outs:=
 bR.of (n:=1) (by simp only[gR,h,aa])
theorem abl{g t e:Nat}{l:List UInt8}{b:ByteArray}(h:E.kG g=some (CN t e))(aa:l.length+b.size<=140737488355328):bR E g [.bld t e l,.lit (.string b)] (.bt [.lit (.int .i64 b.size),.lit .nilIface]) [.bld t e (l++b.data.toList)]:=
 GF h (by simp[CN,aa])
theorem aal{g t e:Nat}{l:List UInt8}(h:E.kG g=some (CE t e)):bR E g [.bld t e l] (.lit (.string (rE l))) [.box [.undef,.undef]]:=
 GF h (by simp[CE,rE])
theorem abm{g:Nat}{n:Int}(h:E.kG g=some CO)(aa:0<=n/\n<4294967296):bR E g [.lit (.int .u32 n)] (.lit (.int .i64 (zB n))) []:=
 GF h (by simp[CO,zB,aa])
theorem zT{g k b:Nat}{O:Type}{e:dE O}{l:List O}(h:E.kG g=some (zS k b))(aj:∀x,(e x).length=k)(hl:l.length*b<=140737488355328):bR E g [.sl (l.map e)] (.own (l.map e)) []:=
 GF h (by
  show(if(∀x∈l.map e,x.length=k)/\(l.map e).length*b<=140737488355328 then some (D.own (l.map e),([]:List D))else none)=_
  rw[if_pos ⟨λx U=>by obtain⟨a,_,rfl⟩:=bL.1 U;exact aj a,by rw[cu];exact hl⟩])
end
end Go.aS
namespace Go.aS
open D
theorem GN:hA []=some []:=rfl
theorem vY{c c':D}{cs b8:List D}(h:c.freeze=some c')(ae:hA cs=some b8):hA (c::cs)=some (c'::b8):=by simp only[hA,h,ae]
theorem acO{F:Fr}{s:Nat}{ps:Path}{cs b8:List D}(ak:b6 F s ps=some (.box cs))(h:hA cs=some b8):eV F (.alias s ps)=some (.ref b8):=by
 simp only[eV,fu,kW,ak,D.freeze,h,aA]
end Go.aS
namespace Go.aS
open D
def wu(s:Nat):D->Bool
 |alias bk p=>bk == s&&!p.isEmpty
 |sub bk p _ _=>bk == s&&!p.isEmpty
 |place bk p _ _=>bk == s&&!p.isEmpty
 |_=>false
def L_(s:Nat):D->Bool
 |agg cs=>cs.any (wu s)
 |fn _ cs=>cs.any (wu s)
 |d=>wu s d
def lg(F:Fr)(s:Nat):Bool:=F.all λx=>!L_ s x.2
theorem F8{s:Nat}{q:Path}(au:q≠[]):∀{d:D},wu s d=false->dj (j7 s q) d=d:=by
 have af:∀p:Path,p.isEmpty=true->D.pre q p=false:=λp h=>by
  cases p with
  |nil=>cases q with
   |nil=>exact absurd rfl au
   |cons _ _=>rfl
  |cons _ _=>cases h
 intro d h;cases d with
 |alias bk p=>
  simp only[wu,aM,ba]at h;simp only[dj,j7];rcases h with h|h
  .simp [h]
  .simp [af p h]
 |sub bk p a b=>
  simp only[wu,aM,ba]at h;simp only[dj,j7];rcases h with h|h
  .simp [h]
  .simp [af p h]
 |place bk p a b=>
  simp only[wu,aM,ba]at h;simp only[dj,j7];rcases h with h|h
  .simp [h]
  .simp [af p h]
 |_=>rfl
theorem Kb{s:Nat}{q:Path}(au:q≠[]):∀{cs:List D},cs.any (wu s)=false->cs.map (dj (j7 s q))=cs
 |[],_=>rfl
 |c::cs,h=>by
  simp only[List.any_cons,bB]at h;simp only[a6,F8 au h.1,Kb au h.2]
theorem F9{s:Nat}{q:Path}(au:q≠[]):∀{F:Fr},lg F s=true->np F s q=F
 |[],_=>rfl
 |(k,d)::F,h=>by
  simp only[lg,bo,aQ,b5]at h;have aN:=F9 au (F:=F) h.2;simp only[np,jM,a6]at aN⊢;rw[aN];have:dN (j7 s q) d=d:=by
   have I:=h.1;cases d with
   |agg cs=>simp only[L_]at I;simp only[dN,Kb au I]
   |fn g cs=>simp only[L_]at I;simp only[dN,Kb au I]
   |alias a b=>exact F8 (d:=alias a b) au I
   |sub a b c d=>exact F8 (d:=sub a b c d) au I
   |place a b c d=>exact F8 (d:=place a b c d) au I
   |_=>rfl
  rw[this]
theorem Gs{F:Fr}{s:Nat}{d:D}:get (cf F s d) s=d:=by
 induction F with
 |nil=>simp[cf,get]
 |cons x F aN=>
  obtain⟨k,e⟩:=x;simp only[cf]
  split
  .simp [get]
  .rename_i h;simp only[get,if_neg h];exact aN
theorem SJ{F:Fr}{s:Nat}{d bf:D}:cf (cf F s d) s bf=cf F s bf:=by
 induction F with
 |nil=>simp[cf]
 |cons x F aN=>
  obtain⟨k,e⟩:=x;simp only[cf]
  split
  .simp [cf]
  .rename_i h;simp only[cf,if_neg h,aN]
theorem Zq{F:Fr}{s:Nat}{es:List (List D)}(h:lg F s=true):lg (cf F s (own es)) s=true:=by
 induction F with
 |nil=>rfl
 |cons x F aN=>
  obtain⟨k,e⟩:=x;simp only[lg,bo,aQ]at h;simp only[cf]
  split
  .simp only[lg,bo,aQ];exact⟨rfl,h.2⟩
  .simp only[lg,bo,aQ];exact⟨h.1,aN h.2⟩
section
variable{O:Type}{e e':dE O}{l:List O}{F:Fr}{s:Nat}
theorem R8{l:List (List O)}(ak:get F s=.own (l.map (dK e)))(hf:mw e id e')(ao:lg F s=true):∀n,n<=l.length->qx F s 0 n=cf F s (.own ((l.take n).map (jG e')++(l.drop n).map (dK e)))
 |0,_=>by
  simp only[qx,List.take_zero,List.map_nil,List.nil_append,List.drop_zero];rw[<-ak];have:∀F:Fr,(∃d,get F s=d/\d≠.undef)->cf F s (get F s)=F:=by
   intro F
   induction F with
   |nil=>rintro⟨d,h,aa⟩;exact absurd h.symm aa
   |cons x F aN=>
    obtain⟨k,e⟩:=x;rintro⟨d,h,aa⟩;simp only[get]at h⊢;simp only[cf]
    split
    .rename_i aj;subst aj;rfl
    .rename_i aj;rw[if_neg aj]at h;rw[aN ⟨d,h,aa⟩]
  exact(this F ⟨_,ak,by simp⟩).symm
 |n+1,pH=>by
  have aN:=R8 ak hf ao n (by omega);simp only[qx,aN];have ah:l.drop n=l[n]::l.drop (n+1):=List.drop_eq_getElem_cons (by omega);have hlen:((l.take n).map (jG e')).length=n:=by simp;omega
  have w9:((l.take n).map (jG e')++(l.drop n).map (dK e))[n]?=some [.own (l[n].map e)]:=by
   rw[List.getElem?_append_right (by omega),hlen,Nat.sub_self,ah];rfl
  have I:b6 (cf F s (.own ((l.take n).map (jG e')++(l.drop n).map (dK e)))) s [(n,0)]=some (.own (l[n].map e)):=by
   simp only[b6,Gs,D.bw,D.elem,w9];rfl
  have eJ:((l.take n).map (jG e')++(l.drop n).map (dK e)).set n [.sl (l[n].map e')]=(l.take (n+1)).map (jG e')++(l.drop (n+1)).map (dK e):=by
   rw[List.set_append_right _ _ (by omega),hlen,Nat.sub_self,ah,a6,b3,List.take_add_one,List.getElem?_eq_getElem (by omega),Option.toList_some,List.map_append,cc];rfl
  have aa:setAt (cf F s (.own ((l.take n).map (jG e')++(l.drop n).map (dK e)))) s [(n,0)] (.sl (l[n].map e'))=some (cf F s (.own ((l.take (n+1)).map (jG e')++(l.drop (n+1)).map (dK e)))):=by
   simp only[setAt,Gs,D.cy,D.elem,w9,List.getElem?_cons_zero,D.df,b3,aA,SJ,eJ]
  simp only[kX,I,D.dC,if_true,o9 hf,aa,aA];exact F9 (by simp) (Zq ao)
theorem aaL{l:List (List O)}(ak:get F s=.own (l.map (dK e)))(hf:mw e id e')(ao:lg F s=true):ya F s 0=cf F s (.own (l.map (jG e'))):=by
 unfold ya;rw[ak];simp only[Nat.reduceEqDiff,if_false];rw[R8 ak hf ao _ (by simp)];simp
theorem aay{E:Env}{f k i:Nat}{V:List Nat}{fS aD:Fr}{l:List (List O)}(aO:vH E f V k i F=fS)(ad:E.AL f k i=[(s,0)])(ak:get fS s=.own (l.map (dK e)))(hf:mw e id e')(ao:lg fS s=true)(aa:cf fS s (.own (l.map (jG e')))=aD):trim E f V k i F=aD:=by
 unfold trim;rw[ad,aO];simp only[sY];rw[aaL ak hf ao,aa]
def tJ(es:List (List D))(b:Bool):D:=if b || !es.isEmpty then .own es else .sl []
theorem App{b c:Bool}(ag:b=true)(h:mw e id e):lS b (tJ (l.map e) c)=some (.sl (l.map e)):=by
 subst ag;unfold tJ
 split
 .exact o9 h l
 .rename_i ad;cases l with
  |nil=>rfl
  |cons a l=>exact absurd (by simp) ad
theorem aaZ{c:Bool}(h:uB e):(tJ (l.map e) c).ln=true:=by
 unfold tJ
 split
 .exact M9 (g0 h)
 .rfl
theorem ach{O:Type}{c:Prop}[Decidable c]{a:O}{x:Option O}(h:x=some a):(if c then some a else x)=some a:=by split<;>simp_all
end
end Go.aS
namespace Go.aS
open D
section
variable{E:Env}{f:Nat}{V:List Nat}{F:Fr}{o:Oper}{call:fL}{O:Type}{e:dE O}{l m:List O}{t et k s n off len:Nat}{ps:Path}{x:Operand}{z:D}
def nX(e:dE O)(l:List O)(off len:Nat)(z:D):List (List D):=(l.map e).take off++List.replicate len z.cells++(l.map e).drop (off+len)
theorem GJ(h:off+len<=l.length):(nX e l off len z).length=l.length:=by simp[nX];omega
theorem K5(h:off+len<=l.length)(ao:n<=off):(nX e l off len z).take n=(l.take n).map e:=by
 unfold nX;rw[cc,List.take_append_of_le_length (by simp;omega),List.take_take,Nat.min_eq_left ao,List.map_take]
theorem Lg(an:o.op=.call { callee:=.builtin .clear,args:=#[x],argTypes:=#[t] })(U:aZ E F x=some (.sub s ps off len))(ak:b6 F s ps=some (.own (l.map e)))(al:eD E.P t=some et)(aG:fC E.P et=some z)(iF:z.cells.length=k)(ae:aY E.P et=k)(af:Nat.blt 0 k=true)(aj:∀x,(e x).length=k)(hl:off+len<=l.length)
  (eJ:(setAt F s ps (.own (nX e l off len z))).isSome=true):cV E f V call F o=some (fin (np (PI F s ps (.own (nX e l off len z))) s ps) o.dst (.bt [])):=by
 have af:0<k:=rp af;have aB:((l.map e).all λc=>c.length==k)=true:=by simp[List.all_eq_true,aj]
 unfold cV;have ds:=Db eJ;unfold nX at ds;simp only[an,nU,U,al,ak,aG,iF,ae,cu];rw[if_pos ⟨hl,trivial,af,aB⟩,ds];rfl
theorem JP{hi:Option Operand}{hi':Nat}(an:o.op=.slice t x none hi none)(U:aZ E F x=some (.alias s ps))(ak:b6 F s ps=some (.own (nX e l off len z)))(aa:iK E F hi=some (some hi'))(al:eD E.P t=some et)(ae:aY E.P et=k)(aj:∀x,(e x).length=k)(iF:z.cells.length=k)(af:Nat.blt 0 k=true)(hl:off+len<=l.length)(aW:hi'<=l.length):
  dJ E f call F o=some (.sub s ps 0 hi'):=by
 have af:0<k:=rp af;have hw:wide k (nX e l off len z)=true:=by
  have fH:∀c∈nX e l off len z,c.length=k:=by
   intro c ad;simp only[nX,List.mem_append]at ad;rcases ad with(ad|ad)|ad
   .obtain ⟨a,_,rfl⟩:=bL.1 (List.mem_of_mem_take ad);exact aj a
   .rw [(List.mem_replicate.1 ad).2];exact iF
   .obtain ⟨a,_,rfl⟩:=bL.1 (List.mem_of_mem_drop ad);exact aj a
  cases ad:nX e l off len z with
  |nil=>rfl
  |cons a r=>have:=fH a (by rw[ad];simp);simp[wide,this]
 unfold dJ;have hlen:=GJ (e:=e) (z:=z) hl;simp only[an,U,aa,xR,oe,al,gU,ak,hlen,ae,hw];simp[aW,af]
theorem KH{fd:Func}{N:Nat}{es:List (List D)}(hr:fd.results.toList=[.tmp t])(al:get F t=.sub s [] 0 n)(ak:b6 F s []=some (.own es))(ao:n<=es.length)(hm:es.take n=m.map e)(hl:ij E f 0 N=[]):ow E f fd N F=some (tJ (m.map e) (!m.isEmpty),[]):=by
 have A9:m.length=n:=by
  have:=congrArg List.length hm;simp at this;omega
 unfold ow;simp only[hr,sE,zx,c9,al,e9,zy,ak];by_cases aO:n=0
 .subst aO;have:m=[]:=List.length_eq_zero_iff.1 A9;subst this;simp[hl,yk,tJ]
 .have eJ:(setAt F s [] D.undef)=some (cf F s D.undef):=by simp[setAt,D.cy]
  rw[if_neg aO];have ky:m≠[]:=λh=>aO (by rw[<-A9,h];rfl);have:tJ (m.map e) (!m.isEmpty)=.own (m.map e):=by
   cases m with
   |nil=>exact absurd rfl ky
   |cons a r=>rfl
  simp[ao,eJ,hl,yk,this,hm]
end
end Go.aS
namespace Go.aS
open D
def wC(l:ay):ByteArray:=⟨(l.map λx=>UInt8.ofNat x.toNat).toArray⟩
theorem Zf{l:ay}(h:∀x∈l,0<=x/\x<256):wT (l.map (lk .u8))=some (l.map λx=>UInt8.ofNat x.toNat):=by
 induction l with
 |nil=>rfl
 |cons a l aN=>
  have aC:=h a (by simp);simp only[a6,wT,aN λx U=>h x (by simp[U])];simp[lk,MR,aC]
theorem KT{E:Env}{f:Nat}{F:Fr}{o:Oper}{call:fL}{s t et:Nat}{x:Operand}{d:D}{l:ay}(an:o.op=.convert s t x)(U:aZ E F x=some d)(ah:gU F d=some (l.map (lk .u8)))(ae:E.P.underlying s=some (.slice et))(he:E.P.underlying et=some (.int .u8))(al:E.P.underlying t=some .string)(h:∀x∈l,0<=x/\x<256):
  dJ E f call F o=some (.lit (.string (wC l))):=by
 unfold dJ;simp only[an,U,wV,ae,al];cases d with
 |lit v=>simp[gU]at ah
 |_=>simp only[he,ah,Zf h,aA,wC]
end Go.aS
namespace Go.aS
theorem ne_eq{E:Env}{F aD:Fr}{y:Operand}{a:List (List D)}(h:jO E F y=some (a,aD)):jO E F y=some (a,Bz E F y):=by
 unfold Bz;rw[h]
end Go.aS
namespace Go.aS
open D
def wh(s:Nat):D->Bool
 |alias bk p=>bk == s&&!p.isEmpty
 |sub bk _ _ _=>bk == s
 |place bk _ _ _=>bk == s
 |_=>false
def Ma(s:Nat):D->Bool
 |agg cs=>cs.any (wh s)
 |fn _ cs=>cs.any (wh s)
 |d=>wh s d
def LR(F:Fr)(s:Nat):Bool:=F.all λx=>!Ma s x.2
theorem G5{s:Nat}:∀{d:D},wh s d=false->dj (j7 s []) d=d:=by
 intro d h;cases d with
 |alias bk p=>
  simp only[wh,aM,ba]at h;simp only[dj,j7];rcases h with h|h
  .simp [h]
  .cases p with
   |nil=>simp
   |cons _ _=>cases h
 |sub bk p a b=>simp only[wh]at h;simp[dj,j7,h]
 |place bk p a b=>simp only[wh]at h;simp[dj,j7,h]
 |_=>rfl
theorem L9{s:Nat}:∀{cs:List D},cs.any (wh s)=false->cs.map (dj (j7 s []))=cs
 |[],_=>rfl
 |c::cs,h=>by
  simp only[List.any_cons,bB]at h;simp only[a6,G5 h.1,L9 h.2]
theorem Uq{s:Nat}:∀{F:Fr},LR F s=true->np F s []=F
 |[],_=>rfl
 |(k,d)::F,h=>by
  simp only[LR,bo,aQ,b5]at h;have aN:=Uq (F:=F) h.2;simp only[np,jM,a6]at aN⊢;rw[aN];have:dN (j7 s []) d=d:=by
   have I:=h.1;cases d with
   |agg cs=>simp only[Ma]at I;simp only[dN,L9 I]
   |fn g cs=>simp only[Ma]at I;simp only[dN,L9 I]
   |alias a b=>exact G5 (d:=alias a b) I
   |sub a b c d=>exact G5 (d:=sub a b c d) I
   |place a b c d=>exact G5 (d:=place a b c d) I
   |_=>rfl
  rw[this]
theorem Rg{E:Env}{f k i s:Nat}{V:List Nat}{F fS aD:Fr}{O:Type}{e e':dE O}{l:List O}(aO:vH E f V k i F=fS)(ad:E.AL f k i=[(s,1000)])(ak:get fS s=.own (l.map e))(hf:mw e id e')(aa:cf fS s (.sl (l.map e'))=aD)(ao:LR aD s=true):trim E f V k i F=aD:=by
 unfold trim;rw[ad,aO];simp only[sY,ya,ak,if_true];have I:b6 fS s []=some (.own (l.map e)):=by simp[b6,D.bw,ak]
 have aB:setAt fS s [] (.sl (l.map e'))=some aD:=by simp[setAt,D.cy,aa]
 simp only[kX,I,D.dC,if_true,o9 hf,aB,aA,Option.getD_some];exact Uq ao
end Go.aS
namespace Go.aS
open D
theorem Z2{cs b8:List D}(h:hA cs=some b8):(D.agg cs).freeze=some (.agg b8):=by simp only[D.freeze,h,aA]
theorem ab3{b:Bool}{cs b8:List D}(ag:b=true)(h:hA cs=some b8):lS b (.bt cs)=some (.bt b8):=by
 subst ag;simp only[lS,if_true,h,aA]
end Go.aS
namespace Go.aS
open D
end Go.aS
