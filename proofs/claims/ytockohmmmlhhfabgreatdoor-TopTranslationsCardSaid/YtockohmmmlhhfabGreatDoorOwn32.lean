/- An interpreter of function bodies, sound. No conditions. -/
import Derived.Laws.IdiomCopy
import Derived.Lib.MakeNoZero
import Derived.Test.YtockohmmmlhhfabGreatDoorOwn28
set_option linter.all false
namespace Go.Own
open D Go.Lib
theorem Az8 {E:Env} {f:Nat} {u1 u2:Value} {n:Int} (hm0:E.mode f 0≠.inout) (hm1:E.mode f 1≠.inout) (hrun:∀ w,(callFunc f #[u1,u2]).run E.P w=.ok (.value (.int .i64 n)) w):FnOK E f [.lit u1,.lit u2] (.lit (.int .i64 n)) []:=by
 intro M w ts hts htg hln hblk hmem hgd;rcases ts with _ | ⟨t1,_ | ⟨t2,_ | ⟨t3,rs⟩⟩⟩
 case nil=>simp at hts
 case cons.nil=>simp at hts
 case cons.cons.cons=>simp at hts
 ·simp only [List.map_cons,List.map_nil,List.cons.injEq,and_true] at hts;obtain rfl:=Asg (htg t1 (by simp)).2 hts.1;obtain rfl:=Asg (htg t2 (by simp)).2 hts.2;have hlents:Aav E f 0 [T.leaf (.lit u1) u1,T.leaf (.lit u2) u2]=[]:=by simp [Aav,hm0,hm1]
  rw [hlents];unfold Does;rw [show (T.vals [T.leaf (.lit u1) u1,T.leaf (.lit u2) u2]).toArray=#[u1,u2] from rfl,hrun];refine ⟨M,.leaf (.lit (.int .i64 n)) (.int .i64 n),[],rfl,rfl,trivial,⟨rfl,rfl⟩,rfl,by simp,rfl,?_,hmem,?_⟩
  ·exact BlkOK.nil _ _
  ·exact Evo.refl' _ _ (by simp [T.blocks,T.blocksC,keys])
end Go.Own
namespace Go.Own
open D Go.Lib
theorem Bat {E:Env} {f:Nat} (hm0:E.mode f 0≠.inout) (hm1:E.mode f 1≠.inout) (hrun:∀ a b w,(callFunc f #[.string a,.string b]).run E.P w=.ok (.value (.int .i64 (bcmp a b))) w) {ds:List D} {r:D} {outs:List D} (h:Anw ds=some (r,outs)):FnOK E f ds r outs:=by
 unfold Anw at h
 split at h
 ·simp only [zJ,Prod.mk.injEq] at h;obtain ⟨rfl,rfl⟩:=h;exact Az8 hm0 hm1 (hrun _ _)
 ·cases h
end Go.Own
