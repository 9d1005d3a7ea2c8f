/- An interpreter of function bodies, sound. No conditions. -/
import Derived.Lib.AppendStr
import Derived.Lib.Builder
import Derived.Lib.Bytealg
import Derived.Test.YtockohmmmlhhfadGreatDoorOwn3
set_option linter.all false

namespace Go.Own
open Go.Lib Go.RowKit
theorem Ax4 {w:World} {base e size:Nat} {v:Value} {n:Nat} {xs:List Value} (h:w.ownsRow base e size v n xs):w.ownsRow 0 e size v n xs:=by
 obtain ⟨h1,h2⟩:=h;refine ⟨h1,?_⟩;rcases h2 with h | ⟨g,cap,cur,h3,_,h4⟩
 ·exact .inl h
 ·exact .inr ⟨g,cap,cur,h3,Nat.zero_le _,h4⟩
theorem Ate {P:Program} {w:World} (t u ty e:TypeId) (i:TypeInfo) (ht:P.underlying t=some (.slice e)) (hu:P.underlying u=some .string) (hi:P.info? e=some i) (hz:i.zero=some (.int .u8 0))
  (hsize:i.size=1) (hby:i.bytes=1) (v:Value) (n:Nat) (xs:List Value) (hown:w.ownsRow 0 e 1 v n xs) (s:ByteArray) (hbytes:n+s.size<=140737488355328) :
  ∃ v' w',(Builtin.append_ #[t,u] ty #[v,.string s]).run P w=.ok v' w'/\w'.ownsRow 0 e 1 v' (n+s.size) (xs++strCells s)/\w.grownBy w' v.ownBlock /\
   ∀ k,v'.ownBlock=some k->v.ownBlock=some k∨w.heap.size<=k:=by
 have h63:n+s.size<=maxLen:=by unfold maxLen;omega
 have hown2:=hown;rcases hown2.2 with ⟨rfl,rfl⟩ | ⟨g,cap,cur,rfl,hbg,hg,hnc,hcm,hcs,htake⟩
 ·obtain ⟨v',w',h1,h2,h3,_⟩:=run_append_own_string (P:=P) w w.heap.size t u ty e i ht hu hi hz hsize hby (.slice none 0 0) 0 xs ⟨hown.1,.inl ⟨rfl,rfl⟩⟩ s h63 hbytes (Nat.le_refl _);refine ⟨v',w',h1,Ax4 h2,h3,fun k hk=>.inr ?_⟩;rcases h2.2 with ⟨rfl,_⟩ | ⟨g,cap,cur,rfl,h5,_⟩
  ·cases hk
  ·simp only [Value.ownBlock,zJ] at hk;omega
 ·obtain ⟨v',w',h1,h2,h3,_⟩:=run_append_own_string (P:=P) w 0 t u ty e i ht hu hi hz hsize hby _ n xs hown s h63 hbytes (Nat.zero_le _);refine ⟨v',w',h1,h2,h3,fun k hk=>?_⟩;by_cases hroom:n+s.size<=cap
  ·have hcs':cur.size=cap:=by simpa using hcs
   have hr:=run_append_room_string (P:=P) w t u ty e i ht hu hi hsize g n cap cur hg s hroom (by omega);rw [h1] at hr;cases hr;exact .inl hk
  ·have hxl:xs.length=n:=by simpa using hown.1
   have holds:∀ j u,xs[j]? = some u->w.cell? ((⟨g,0,none⟩:Addr).add j)=some u:=hown.cells (g:=g) rfl;have hr:=run_append_grow_string (P:=P) w t u ty e i (.int .u8 0) ht hu hi hz ⟨g,0,none⟩ n cap xs (by rw [hsize];simpa using hxl) holds s (by omega) (by omega) (by rw [hby];exact growslice_fits (by omega) (by omega));rw [h1] at hr;cases hr;simp only [Value.ownBlock,zJ] at hk;exact .inr (by omega)
theorem Apj {P:Program} {w:World} {ops:Array Oper} {rest:List Oper} {o:Oper} {a:Act} {Q:Exit->Act->World->Prop} (hgd:o.guard=none) (sl x:Operand) (t u:TypeId)
  (ho:o.op=.call { callee:=.builtin .append,args:=#[sl,x],argTypes:=#[t,u] })
  (e:TypeId) (i:TypeInfo) (ht:P.underlying t=some (.slice e)) (hu:P.underlying u=some .string) (hi:P.info? e=some i) (hz:i.zero=some (.int .u8 0))
  (hsize:i.size=1) (hby:i.bytes=1)
  (v:Value) (n:Nat) (xs:List Value) (hs:a.eval sl=v) (hown:w.ownsRow 0 e 1 v n xs) (s:ByteArray) (hx:a.eval x=.string s)
  (hbytes:n+s.size<=140737488355328)
  (h:∀ v' w',w'.ownsRow 0 e 1 v' (n+s.size) (xs++strCells s)->w.grownBy w' v.ownBlock->(∀ k,v'.ownBlock=some k->v.ownBlock=some k∨w.heap.size<=k)->wpList P ops Q rest (a.put o.dst v') w'):wpList P ops Q (o::rest) a w:=by
 refine wpList_plain hgd fun K hK=>?_;obtain ⟨v',w',hr,h2,h3,h4⟩:=Ate (P:=P) (w:=w) t u o.type e i ht hu hi hz hsize hby v n xs hown s hbytes;unfold Oper.wp execOp;simp only [ho,resolve,invoke,builtin,Sem.run_bind,Sem.run_pure,Result.andThen_ok,List.map_toArray,List.map_cons,List.map_nil,hs,hx,hr];exact hK _ _ (h v' w' h2 h3 h4)
end Go.Own
namespace Go.Own
open D
def Aid (t e:Nat):List D->Option (D×List D)
 | [D.bld t' e' l,D.lit (.string s)]=>if t'=t/\e'=e/\l.length+s.size<=140737488355328 then some (D.tup [D.lit (.int .i64 s.size),D.lit .nilIface],[D.bld t e (l++s.data.toList)]) else none
 | _=>none
def Ah8 (t e:Nat):List D->Option (D×List D)
 | [D.bld t' e' l]=>if t'=t/\e'=e then some (D.lit (.string ⟨l.toArray⟩),[D.box [D.undef,D.undef]]) else none
 | _=>none
def Ac9 (x:Nat):Nat->Nat->Nat
 | 0,k=>k
 | n+1,k=>if x.testBit k then k else Ac9 x n (k+1)
def Aie:List D->Option (D×List D)
 | [D.lit (.int .u32 n)]=>if 0<=n/\n<4294967296 then some (D.lit (.int .i64 (Ac9 n.toNat 32 0)),[]) else none
 | _=>none
def bcmp (a b:ByteArray):Int:=Lib.compareBytes a.data.toList b.data.toList
def Apd:List D->Option (D×List D)
 | [D.lit (.string a),D.lit (.string b)]=>some (D.lit (.int .i64 (bcmp a b)),[])
 | _=>none
def Afe (k b:Nat):List D->Option (D×List D)
 | [D.sl es]=>if (∀ x∈es,x.length=k)/\es.length*b<=140737488355328 then some (D.own es,[]) else none
 | _=>none
end Go.Own
