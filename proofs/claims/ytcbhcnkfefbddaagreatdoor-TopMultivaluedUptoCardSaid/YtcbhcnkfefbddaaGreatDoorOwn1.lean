/- An interpreter of function bodies, sound. No conditions. -/
set_option linter.all false
namespace Go.aS
inductive bY(O:Type) where
 |nil
 |node (k:Nat) (v:O) (l r:bY O)
def bY.find{O:Type}:bY O->Nat->Option O
 | .nil,_=>none
 | .node k v l r,i=>bif Nat.blt i k then l.find i else bif Nat.beq i k then some v else r.find i
def bY.all{O:Type}(p:O->Bool):bY O->Bool
 | .nil=>true
 | .node _ v l r=>p v&&l.all p&&r.all p
def bY.under{O:Type}(n:Nat):bY O->Bool
 | .nil=>true
 | .node k _ l r=>Nat.blt k n&&l.under n&&r.under n
theorem bY.M7{O:Type}{n:Nat}:∀{t:bY O}{i:Nat}{v:O},t.under n=true->t.find i=some v->i<n
 | .nil,_,_,_,h=>by simp[bY.find]at h
 | .node k w l r,i,v,aC,h=>by
  simp only[bY.under,Bool.and_eq_true]at aC;simp only[bY.find]at h;cases I:Nat.blt i k with
  |true=>rw[I]at h;exact M7 aC.1.2 h
  |false=>
   rw[I]at h;simp only[cond_false]at h;cases aa:Nat.beq i k with
   |true=>have:=Nat.eq_of_beq_eq_true aa;subst this;exact Nat.le_of_ble_eq_true aC.1.1
   |false=>rw[aa]at h;exact M7 aC.2 h
end Go.aS
