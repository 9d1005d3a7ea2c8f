/- An interpreter of function bodies, sound. No conditions. -/
import Derived.Lib.AppendStr
import Derived.Lib.Builder
import Derived.Lib.Bytealg
import Derived.Test.YtcbhcnkfefbddaaGreatDoorOwn3
set_option linter.all false

namespace Go.aS
open Go.Lib Go.RowKit
theorem YV{w:World}{base e size:Nat}{v:Value}{n:Nat}{xs:List Value}(h:w.ownsRow base e size v n xs):w.ownsRow 0 e size v n xs:=by
 obtain⟨I,aa⟩:=h;refine⟨I,?_⟩;rcases aa with h|⟨g,cap,cur,aB,_,aW⟩
 .exact .inl h
 .exact .inr ⟨g,cap,cur,aB,Nat.zero_le _,aW⟩
theorem Yw{P:Program}{w:World}(t u ty e:TypeId)(i:TypeInfo)(al:P.underlying t=some (.slice e))(hu:P.underlying u=some .string)(hi:P.info? e=some i)(aG:i.zero=some (.int .u8 0))
  (zb:i.size=1) (nb:i.bytes=1) (v:Value) (n:Nat) (xs:List Value) (ly:w.ownsRow 0 e 1 v n xs) (s:ByteArray) (H8:n+s.size<=140737488355328):
  ∃gN w',(Builtin.append_ #[t,u] ty #[v,.string s]).run P w=.ok gN w'/\w'.ownsRow 0 e 1 gN (n+s.size) (xs++strCells s)/\w.grownBy w' v.ownBlock /\
   ∀k,gN.ownBlock=some k->v.ownBlock=some k∨w.heap.size<=k:=by
 have Ni:n+s.size<=maxLen:=by unfold maxLen;omega
 have ajL:=ly;rcases ajL.2 with⟨rfl,rfl⟩|⟨g,cap,cur,rfl,rO,ak,Bc,jx,ku,Oo⟩
 .obtain ⟨gN,w',I,aa,aB,_⟩:=run_append_own_string (P:=P) w w.heap.size t u ty e i al hu hi aG zb nb (.slice none 0 0) 0 xs ⟨ly.1,.inl ⟨rfl,rfl⟩⟩ s Ni H8 (Nat.le_refl _);refine⟨gN,w',I,YV aa,aB,λk aj=>.inr ?_⟩;rcases aa.2 with⟨rfl,_⟩|⟨g,cap,cur,rfl,bO,_⟩
  .cases aj
  .simp only[Value.ownBlock,aE]at aj;omega
 .obtain ⟨gN,w',I,aa,aB,_⟩:=run_append_own_string (P:=P) w 0 t u ty e i al hu hi aG zb nb _ n xs ly s Ni H8 (Nat.zero_le _);refine⟨gN,w',I,aa,aB,λk aj=>?_⟩;by_cases qN:n+s.size<=cap
  .have ami:cur.size=cap:=by simpa using ku
   have hr:=run_append_room_string (P:=P) w t u ty e i al hu hi zb g n cap cur ak s qN (by omega);rw[I]at hr;cases hr;exact .inl aj
  .have r3:xs.length=n:=by simpa using ly.1
   have holds:∀j u,xs[j]?=some u->w.cell? ((⟨g,0,none⟩:Addr).add j)=some u:=ly.cells (g:=g) rfl;have hr:=run_append_grow_string (P:=P) w t u ty e i (.int .u8 0) al hu hi aG ⟨g,0,none⟩ n cap xs (by rw[zb];simpa using r3) holds s (by omega) (by omega) (by rw[nb];exact growslice_fits (by omega) (by omega));rw[I]at hr;cases hr;simp only[Value.ownBlock,aE]at aj;exact .inr (by omega)
theorem Yk{P:Program}{w:World}{ops:Array Oper}{rest:List Oper}{o:Oper}{a:Act}{Q:Exit->Act->World->Prop}(ef:o.guard=none)(sl x:Operand)(t u:TypeId)
  (an:o.op=.call { callee:=.builtin .append,args:=#[sl,x],argTypes:=#[t,u] })
  (e:TypeId) (i:TypeInfo) (al:P.underlying t=some (.slice e)) (hu:P.underlying u=some .string) (hi:P.info? e=some i) (aG:i.zero=some (.int .u8 0))
  (zb:i.size=1) (nb:i.bytes=1)
  (v:Value) (n:Nat) (xs:List Value) (ae:a.eval sl=v) (ly:w.ownsRow 0 e 1 v n xs) (s:ByteArray) (U:a.eval x=.string s)
  (H8:n+s.size<=140737488355328)
  (h:∀gN w',w'.ownsRow 0 e 1 gN (n+s.size) (xs++strCells s)->w.grownBy w' v.ownBlock->(∀k,gN.ownBlock=some k->v.ownBlock=some k∨w.heap.size<=k)->wpList P ops Q rest (a.put o.dst gN) w'):wpList P ops Q (o::rest) a w:=by
 refine wpList_plain ef λK dA=>?_;obtain⟨gN,w',hr,aa,aB,aW⟩:=Yw (P:=P) (w:=w) t u o.type e i al hu hi aG zb nb v n xs ly s H8;unfold Oper.wp execOp;simp only[an,resolve,invoke,builtin,Sem.run_bind,Sem.run_pure,Result.andThen_ok,List.map_toArray,List.map_cons,List.map_nil,ae,U,hr];exact dA _ _ (h gN w' aa aB aW)
end Go.aS
namespace Go.aS
open D
def CN(t e:Nat):List D->Option (D×List D)
 |[D.bld bz e' l,D.lit (.string s)]=>if bz=t/\e'=e/\l.length+s.size<=140737488355328 then some (D.bt [D.lit (.int .i64 s.size),D.lit .nilIface],[D.bld t e (l++s.data.toList)])else none
 |_=>none
def CE(t e:Nat):List D->Option (D×List D)
 |[D.bld bz e' l]=>if bz=t/\e'=e then some (D.lit (.string ⟨l.toArray⟩),[D.box [D.undef,D.undef]])else none
 |_=>none
def kN(x:Nat):Nat->Nat->Nat
 |0,k=>k
 |n+1,k=>if x.testBit k then k else kN x n (k+1)
def CO:List D->Option (D×List D)
 |[D.lit (.int .u32 n)]=>if 0<=n/\n<4294967296 then some (D.lit (.int .i64 (kN n.toNat 32 0)),[])else none
 |_=>none
def zS(k b:Nat):List D->Option (D×List D)
 |[D.sl es]=>if(∀x∈es,x.length=k)/\es.length*b<=140737488355328 then some (D.own es,[])else none
 |_=>none
end Go.aS
