/- What the functions that the law reaches answer. No conditions. -/
import Derived.Test.YtmiedlcblpiemaaGreatDoorBase2
set_option linter.all false
namespace Go.Own
def free:List Bool→Nat
 | []=>0
 | b::l=>(if b then 0 else 1)+free l
structure CP (rows:Int) (cs:List (List Int)):Prop where
 two:∀ c∈cs,2≤c.length
 inc:∀ c∈cs,c.Pairwise (·<·)
 inn:∀ c∈cs,∀ i∈c,0≤i∧i<rows
 heads:cs.Pairwise fun c d=>c.headD 0<d.headD 0
 disj:cs.Pairwise fun c d=>∀ i∈c,i ∉ d
def idx:Nat→List (List Int)→List (Int×List Int)
 | _,[]=>[]
 | k,c::cs=>((k:Int),c)::idx (k+1) cs
section
variable {α:Type} [DecidableEq α]
end
section
variable {α β:Type} [DecidableEq α] [DecidableEq β]
structure Alike (l:List α) (m:List β):Prop where
 len:l.length=m.length
 iff:∀ i j:Nat,i<l.length→j<l.length→(l[i]? = l[j]?↔m[i]? = m[j]?)
end
section
variable {α:Type} [DecidableEq α]
end
structure In1 (l c:List Int):Prop where
 ne:c≠[]
 has:∀ i∈c,∃ a,lget l i=some a
namespace drossref08_Removal
end drossref08_Removal
end Go.Own
