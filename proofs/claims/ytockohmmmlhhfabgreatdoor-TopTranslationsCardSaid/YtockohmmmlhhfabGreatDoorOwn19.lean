/- An interpreter of function bodies, sound. No conditions. -/
import Derived.Test.YtockohmmmlhhfabGreatDoorOwn18
set_option linter.all false
namespace Go.Own
open D
def OutX (X:List (Nat×Obj)) (M:Mem) (G:FT) (w0 w:World):Prop:=∀ b∈X,w.heap[b.1]? = some b.2/\M b.1=none/\b.1 ∉ keys (Aa0 G)/\w0.heap.size<=b.1
def Aco (n:Nat) (R:Nat->Value) (M:Mem) (B:List Nat) (w0:World) (F:Fr) (X:List (Nat×Obj)) (a:Act) (w:World):Prop:=∃ M1 G1,Inv n R M1 F G1 [] a w/\Evo M B w0 M1 (keys (Aa0 G1)) w/\OutX X M1 G1 w0 w
def ToMX (E:Env) (n:Nat) (cd:Code) (F:Fr) (X:List (Nat×Obj)) (Q:Ex->Fr->List (Nat×Obj)->Prop):Prop:=
 ∀ (R:Nat->Value) (M:Mem) (B:List Nat) (w0:World) (a:Act) (w:World) (Qw:Exit->Act->World->Prop),Ac9 n cd->Good E M->Aco n R M B w0 F X a w ->
  (∀ e F' X' a' w',Q e F' X'->Aco n R M B w0 F' X' a' w'->Qw (Apy e) a' w')->cd.wp E.P Qw a w
section
variable {E:Env} {n f:Nat} {V:List Nat} {F F':Fr} {X:List (Nat×Obj)} {Q:Ex->Fr->List (Nat×Obj)->Prop} {call:Nat->List D->Option (D×List D)}
theorem Evo.keepX {M M2:Mem} {G G2:FT} {w0 w w':World} (e2:Evo M (keys (Aa0 G)) w M2 (keys (Aa0 G2)) w') (h:OutX X M G w0 w):OutX X M2 G2 w0 w':=by
 intro b hb;obtain ⟨h1,h2,h3,h4⟩:=h b hb;have hlt:b.1<w.heap.size:=(Array.getElem?_eq_some_iff.1 h1).1;refine ⟨(e2.out b.1 hlt h3).trans h1,?_,fun hk=>?_,h4⟩
 ·cases hq:M2 b.1 with
  | none=>rfl
  | some o=>
   rcases e2.memnew b.1 o hq with h | h | h
   ·rw [h2] at h;cases h
   ·exact absurd h h3
   ·omega
 ·rcases e2.own b.1 hk with h | h
  ·exact h3 h
  ·omega
theorem ToM.ofX {cd:Code} {Q':Ex->Fr->Prop} (h:ToMX E n cd F [] fun e F' _=>Q' e F'):ToM E n cd F Q':=by
 intro R M B w0 a w Qw hf hg ⟨M1,G1,i1,e1⟩ hQ;refine h R M B w0 a w Qw hf hg ⟨M1,G1,i1,e1,fun b hb=>by cases hb⟩ ?_;rintro e F' X' a' w' q ⟨M2,G2,i2,e2,_⟩;exact hQ e F' a' w' q ⟨M2,G2,i2,e2⟩
end
end Go.Own
namespace Go.Own
open D
def sEnt (ks:List ByteArray):List (Value×Nat×D×Value):=ks.zipIdx.map fun x=>(.string x.1,x.2,.lit (.bool true),.bool true)
def sMap (ks:List ByteArray):Obj:=.map (T.entries (sEnt ks)) ks.length
def sIns (k:ByteArray) (ks:List ByteArray):List ByteArray:=if (ks.any fun a=>k == a)=true then ks else ks++[k]
def dd (l:List ByteArray):List ByteArray:=l.foldl (fun acc k=>sIns k acc) []
end Go.Own
