/- An interpreter of function bodies, sound. No conditions. -/
set_option linter.all false
namespace Go.Own
inductive KT(O:Type) where
 |nil
 |node (k:Nat) (v:O) (l r:KT O)
def KT.find{O:Type}:KT O->Nat->Option O
 | .nil,_=>none
 | .node k v l r,i=>bif Nat.blt i k then l.find i else bif Nat.beq i k then some v else r.find i
def KT.all{O:Type}(p:O->Bool):KT O->Bool
 | .nil=>true
 | .node _ v l r=>p v&&l.all p&&r.all p
def KT.under{O:Type}(n:Nat):KT O->Bool
 | .nil=>true
 | .node k _ l r=>Nat.blt k n&&l.under n&&r.under n
theorem KT.find_under{O:Type}{n:Nat}:∀{t:KT O}{i:Nat}{v:O},t.under n=true->t.find i=some v->i<n
 | .nil,_,_,_,h=>by simp[KT.find]at h
 | .node k w l r,i,v,ha,h=>by
  simp only[KT.under,Bool.and_eq_true]at ha;simp only[KT.find]at h;cases h1:Nat.blt i k with
  |true=>rw[h1]at h;exact find_under ha.1.2 h
  |false=>
   rw[h1]at h;simp only[cond_false]at h;cases h2:Nat.beq i k with
   |true=>have:=Nat.eq_of_beq_eq_true h2;subst this;exact Nat.le_of_ble_eq_true ha.1.1
   |false=>rw[h2]at h;exact find_under ha.2 h
end Go.Own
